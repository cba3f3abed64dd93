/-
  What is selected: the document's Select, walked (written by genVwSc.py).
-/
import Derived.Test.YtjedpjfmlaganaaDoorVwSb
namespace Go.Proofs.YtjedpjfmlaganaaDoor.vw
open Go.RowKit
set_option linter.unusedVariables false

theorem own_zero2 (w : World) (base : Nat) (hb : base ≤ w.heap.size) (e : TypeId) (size : Nat) : (w.alloc (.cells #[] e)).ownsRow base e size (.slice (some ⟨w.heap.size, 0, none⟩) 0 0) 0 [] :=
  ⟨by simp, .inr ⟨w.heap.size, 0, #[], rfl, hb, box_new w #[] e, Nat.le_refl _, by simp, by simp, by simp⟩⟩
theorem any_take {α : Type} {p : α → Bool} {l : List α} {j : Nat} {x : α} (h : l[j]? = some x) : (l.take (j + 1)).any p = ((l.take j).any p || p x) := by
  rw [take_snoc h]; simp
set_option maxRecDepth 100000 in
set_option maxHeartbeats 8000000 in
theorem refselect_any (w : World) (CA : Option Addr) (m cc : Nat) (cols : List va.Col) (hcl : cols.length = m) (hm : m ≤ 1000) (hcr : Row w w.heap.size CA (ccs cols))
    (RA : Option Addr) (rn rc : Nat) (rows : List Kd) (hrl : rows.length = rn) (hrn : rn ≤ 60) (hrr : Row w w.heap.size RA (kcs rows)) (hrk : ∀ x ∈ rows, KHas w w.heap.size x ∧ x.n = m)
    (PA : Option Addr) (pn pc : Nat) (pick : List Int) (hpl : pick.length = pn) (hpn : pn ≤ 1000000) (hpr : Row w w.heap.size PA (ints pick))
    (NA : Option Addr) (nn nc : Nat) (p : List pr.Nd) (hnl : p.length = nn) (hnn : nn ≤ 1000000) (hnr : Row w w.heap.size NA (ncs p)) (hnh : ∀ n ∈ p, Has w w.heap.size n) (hT : Tabs8 w) :
    Calls Tryd.prog 9 #[.slice CA m cc, .slice RA rn rc, .slice PA pn pc, .slice NA nn nc] w fun e w' => Sel w cols rows pick p e w' := by
  obtain ⟨q1, hq1⟩ : ∃ q, pick.any (offI m) = q := ⟨_, rfl⟩
  have hm1 := hide (refmay_any w CA m cc cols hcl (by omega) hcr NA nn nc p hnl (by omega) hnr hnh hT)
  obtain ⟨q3, hq3⟩ : ∃ q, pr.mayP cols p = q := ⟨_, rfl⟩
  rw [hq3] at hm1
  have HSEL := hide (show selOk cols p pick = (!q1 && (decide (pn ≤ 6) && q3)) by unfold selOk; rw [hcl, hq1, hpl, hq3])
  have HEV := hide (fun (hok : q3 = true) (W : World) (h : Le w W) (x : Kd) (hx : x ∈ rows) => refeval_any W NA nn nc p x.A x.n x.c x.vals hnl (by have := pr.may_fine (hq3.trans hok); omega) ((h.row hnr (Nat.le_refl _)).more h.size) (fun n hn => ((hnh n hn).on h (Nat.le_refl _)).more h.size) (hrk x hx).1.1 (by have := (hrk x hx).2; omega) ((h.row (hrk x hx).1.2.2 (Nat.le_refl _)).more h.size) (by
    have h1 := (pr.may_fine (hq3.trans hok)).2.2
    rw [hcl] at h1
    rw [(hrk x hx).2]
    exact h1))
  have HRL := hide hrl
  have HRR := hide hrr
  have HRK := hide hrk
  have HPL := hide hpl
  have HPR := hide hpr
  have HQ1 := hide hq1
  clear hcl hcr hrl hrr hrk hpl hpr hnl hnr hnh hT hq1 hq3
  go_enter Tryd.func9, Tryd.ntmps9
  go_wp2_with fail
  refine hm1.out.mono ?_
  rintro e w1 ⟨rfl, hb⟩
  have HL1 := hide (show Le w w1 from hb)
  clear hb hm1
  go_wp2_with fail
  go_loopw [10, 11] (fun s t wr => ∃ j : Nat, s = .bool (q3 && !(pick.take j).any (offI m)) ∧ t = .int .i64 j ∧ j ≤ pn ∧ wr = w1) (fun _ t _ => pn - (intOf t).toNat)
  case atStart => exact ⟨0, by simp, rfl, Nat.zero_le _, rfl⟩
  case round =>
    obtain ⟨j, rfl, rfl, hj, rfl⟩ := hrel
    by_cases hjp : j < pn
    · obtain ⟨x, hx⟩ : ∃ x, pick[j]? = some x := ⟨_, List.getElem?_eq_getElem (by rw [HPL.out]; exact hjp)⟩
      obtain ⟨bP, oP, rfl, hbP, cp⟩ := HPR.out.at_ (ints_at hx)
      have hjI : (j : Int) < pn := by omega
      have ep : wr.cell? ⟨bP, oP + j, none⟩ = some (.int .i64 x) := (HL1.out.cell (p := ⟨bP, oP + j, none⟩) hbP).trans cp
      have hat := any_take (p := offI m) hx
      obtain ⟨bc, hbc⟩ : ∃ b, (q3 && !(pick.take j).any (offI m)) = b := ⟨_, rfl⟩
      have HST := hide (show (q3 && !(pick.take (j + 1)).any (offI m)) = (bc && !offI m x) by rw [hat, ← hbc]; cases q3 <;> cases (pick.take j).any (offI m) <;> simp)
      rw [hbc]
      clear hat hbc cp hx
      cases bc
      · go_wp2_with fail
        exact ⟨⟨j + 1, by rw [HST.out]; rfl, by go_num, by omega, by first | rfl | trivial⟩, by simp [intOf]; omega⟩
      · by_cases h0 : x < 0
        · have h0' : ¬ (0 : Int) ≤ x := by omega
          have HX := hide (show offI m x = true by simp [offI, h0])
          go_wp2_with fail
          exact ⟨⟨j + 1, by rw [HST.out, HX.out]; rfl, by go_num, by omega, by first | rfl | trivial⟩, by simp [intOf]; omega⟩
        · have h0' : (0 : Int) ≤ x := by omega
          by_cases h1 : (m : Int) ≤ x
          · have h1' : ¬ x < (m : Int) := by omega
            have HX := hide (show offI m x = true by simp [offI, h1])
            go_wp2_with fail
            exact ⟨⟨j + 1, by rw [HST.out, HX.out]; rfl, by go_num, by omega, by first | rfl | trivial⟩, by simp [intOf]; omega⟩
          · have h1' : x < (m : Int) := by omega
            have HX := hide (show offI m x = false by simp [offI, h0, h1])
            go_wp2_with fail
            exact ⟨⟨j + 1, by rw [HST.out, HX.out]; rfl, by go_num, by omega, by first | rfl | trivial⟩, by simp [intOf]; omega⟩
    · obtain rfl : j = pn := by omega
      have hjI : ¬ (j : Int) < j := by omega
      have hall : pick.take j = pick := List.take_of_length_le (by rw [HPL.out]; exact Nat.le_refl _)
      rw [hall, HQ1.out]
      obtain ⟨W1, rfl⟩ : ∃ W, W = wr := ⟨_, rfl⟩
      clear hall
      obtain ⟨bq, hbq⟩ : ∃ b, (q3 && !q1) = b := ⟨_, rfl⟩
      rw [hbq]
      cases bq
      case false =>
        have HS := hide (show selOk cols p pick = false by rw [HSEL.out]; revert hbq; cases q1 <;> cases q3 <;> simp)
        clear hbq HEV HSEL
        go_wp2_with fail
        go_ret2
        exact sel_none HS.out HL1.out
      case true =>
        obtain ⟨rfl, rfl⟩ : q3 = true ∧ q1 = false := by revert hbq; cases q1 <;> cases q3 <;> simp
        by_cases h6 : j ≤ 6
        case neg =>
          have h6d : decide ((6 : Int) < j) = true := decide_eq_true (by omega)
          have h6e : (6 : Int) < j := by omega
          have HS := hide (show selOk cols p pick = false by rw [HSEL.out, decide_eq_false h6]; rfl)
          clear hbq HEV HSEL
          go_wp2_with fail
          go_ret2
          exact sel_none HS.out HL1.out
        case pos =>
          have h6d : decide ((6 : Int) < j) = false := decide_eq_false (by omega)
          have h6e : ¬ (6 : Int) < j := by omega
          have HS := hide (show selOk cols p pick = true by rw [HSEL.out, decide_eq_true h6]; rfl)
          obtain ⟨pn, rfl⟩ : ∃ pn, pn = j := ⟨_, rfl⟩
          clear hbq HSEL hj hjp hjI
          have HOFF := hide (show ∀ (i : Nat) (x : Int), pick[i]? = some x → offI m x = false from fun i x hx => any_false HQ1.out hx)
          go_upto_region 9 with fail
          obtain ⟨N, hN, hon, hlN⟩ : ∃ X, W1.alloc (.cells #[] 37) = X ∧ X.ownsRow w.heap.size 37 4 (.slice (some ⟨W1.heap.size, 0, none⟩) 0 0) 0 [] ∧ Le W1 X := ⟨_, rfl, own_zero2 W1 _ HL1.out.size _ _, (Below.refl _ _).alloc (Nat.le_refl _) _⟩
          rw [hN]
          have HON := hide hon
          have HL3 := hide (HL1.out.trans hlN)
          clear hN hon hlN
          go_wp2_with fail
          go_loopw [12, 13] (fun s t wr => ∃ (i k cs : Nat) (As : Option Addr) (S : List Kd), s = .slice As k cs ∧ t = .int .i64 i ∧ i ≤ rn ∧ k ≤ i ∧ Hid (S.length = k) ∧ Hid (S.map cont = selC p pick (rows.take i)) ∧ Hid (wr.ownsRow w.heap.size 37 4 (.slice As k cs) k (kcs S)) ∧ Hid (∀ x ∈ S, KFar wr (Value.slice As k cs).ownBlock x) ∧ Hid (Le w wr)) (fun _ t _ => rn - (intOf t).toNat)
          case atStart => exact ⟨0, 0, 0, _, [], rfl, rfl, Nat.zero_le _, Nat.le_refl _, hide rfl, hide rfl, HON, hide (fun x hx => by cases hx), HL3⟩
          case round =>
            obtain ⟨i, k, cs, As, S, rfl, rfl, hi, hki, HSL, HSC, HO, HSF, HLr⟩ := hrel
            obtain ⟨Z, rfl⟩ : ∃ Z, Z = wr := ⟨_, rfl⟩
            by_cases hir : i < rn
            · obtain ⟨u, hu⟩ : ∃ u, rows[i]? = some u := ⟨_, List.getElem?_eq_getElem (by rw [HRL.out]; exact hir)⟩
              obtain ⟨bA, oA, rfl, hbA, r0, r1, r2, r3⟩ := row_kd HRR.out hu
              have hiI : (i : Int) < rn := by omega
              have HMU := hide (List.mem_of_getElem? hu)
              have HKU := hide (HRK.out u (List.mem_of_getElem? hu))
              have HST := hide (sel_step (p := p) (pick := pick) hu)
              have HRO := hide (And.intro r0 (And.intro r1 (And.intro r2 r3)))
              have e3 : Z.cell? ⟨bA, oA + i * 4 + 3, none⟩ = some (.slice u.A u.n u.c) := (HLr.out.cell (p := ⟨bA, oA + i * 4 + 3, none⟩) hbA).trans r3
              obtain ⟨dv, hdv⟩ : ∃ d, pr.evalV p u.vals = d := ⟨_, rfl⟩
              have HDV := hide hdv
              have hev := hide (HEV.out (by simp) Z HLr.out u HMU.out)
              rw [HDV.out] at hev
              clear r0 r1 r2 r3 hu hdv
              go_wp2_with fail
              refine hev.out.mono ?_
              rintro e w3 ⟨rfl, hb⟩
              have HL4 := hide (HLr.out.trans hb)
              have HO3 := hide (own_below HO.out hb)
              have HSF3 := hide (fun x hx => (HSF.out x hx).on hb)
              clear hb e3 hev
              by_cases hd2 : dv = 2
              · subst hd2
                have f0 : w3.cell? ⟨bA, oA + i * 4, none⟩ = some (.int .i64 u.k.id) := (HL4.out.cell (p := ⟨bA, oA + i * 4, none⟩) hbA).trans HRO.out.1
                have f1 : w3.cell? ⟨bA, oA + i * 4 + 1, none⟩ = some (.int .i64 u.k.bk) := (HL4.out.cell (p := ⟨bA, oA + i * 4 + 1, none⟩) hbA).trans HRO.out.2.1
                have f2 : w3.cell? ⟨bA, oA + i * 4 + 2, none⟩ = some (.int .i64 u.k.rw) := (HL4.out.cell (p := ⟨bA, oA + i * 4 + 2, none⟩) hbA).trans HRO.out.2.2.1
                go_upto_region 14 with fail
                obtain ⟨Y, hY, bY, hlY⟩ : ∃ Y, w3.alloc (.cells #[.int .i64 u.k.id, .int .i64 u.k.bk, .int .i64 u.k.rw, .slice none 0 0] 37) = Y ∧ Box Y w3.heap.size #[.int .i64 u.k.id, .int .i64 u.k.bk, .int .i64 u.k.rw, .slice none 0 0] 37 ∧ Le w3 Y := ⟨_, rfl, box_new _ _ _, (Below.refl _ _).alloc (Nat.le_refl _) _⟩
                rw [hY]
                have BY := hide bY
                have HLY := hide hlY
                clear hY bY hlY f0 f1 f2
                go_wp2_with fail
                go_loopw [15] (fun s wx => ∃ (j c1 : Nat) (A1 : Option Addr), s = .int .i64 j ∧ j ≤ pn ∧ Hid (Box wx w3.heap.size #[.int .i64 u.k.id, .int .i64 u.k.bk, .int .i64 u.k.rw, .slice A1 j c1] 37) ∧ Hid (wx.ownsRow (w3.heap.size + 1) 43 3 (.slice A1 j c1) j (vcs (picks u.vals (pick.take j)))) ∧ Hid (Le w3 wx)) (fun s _ => pn - (intOf s).toNat)
                case atStart => exact ⟨0, 0, none, rfl, Nat.zero_le _, BY, hide (World.ownsRow_nil _ _ _ _), HLY⟩
                case round =>
                  obtain ⟨j, c1, A1, rfl, hj, BYr, HOr, HLs⟩ := hrel
                  by_cases hjp : j < pn
                  · obtain ⟨pj0, hpj⟩ : ∃ x, pick[j]? = some x := ⟨_, List.getElem?_eq_getElem (by rw [HPL.out]; exact hjp)⟩
                    obtain ⟨pj, rfl, hpm⟩ := off_none (HOFF.out _ _ hpj)
                    obtain ⟨bP, oP, rfl, hbP, cp⟩ := HPR.out.at_ (ints_at hpj)
                    obtain ⟨v, hv⟩ : ∃ v, u.vals[pj]? = some v := ⟨_, List.getElem?_eq_getElem (by rw [HKU.out.1.1, HKU.out.2]; exact hpm)⟩
                    obtain ⟨bV, oV, eV, hbV, v0, v1, v2⟩ := row_at3 HKU.out.1.2.2 hv
                    have hjI : (j : Int) < pn := by omega
                    have hun := HKU.out.2
                    have hpu : (pj : Int) < u.n := by omega
                    have HPK := hide (show picks u.vals (pick.take (j + 1)) = picks u.vals (pick.take j) ++ [v] by rw [picks_step hpj, getD_at hv])
                    go_upto_region 17 with fail
                    obtain ⟨V, hV⟩ : ∃ V, wr.drew = V := ⟨_, rfl⟩
                    have HLV := hide (show Le w3 V by rw [← hV]; exact HLs.out.drew)
                    have BYV := hide (show Box V w3.heap.size #[.int .i64 u.k.id, .int .i64 u.k.bk, .int .i64 u.k.rw, .slice A1 j c1] 37 by rw [← hV]; exact BYr.out.drew)
                    have HOV := hide (own_below HOr.out (show Le wr V by rw [← hV]; exact (Le.refl _).drew))
                    have HZS := hide (show w.heap.size ≤ w3.heap.size from HL4.out.size)
                    have HBG := hide (show ∀ W, YT V w3.heap.size (.slice A1 j c1) W → Below w.heap.size w W from fun W h => Below.trans HL4.out ((Below.trans HLV.out h.1).mono HZS.out))
                    have hy3 : ∀ W, YT V w3.heap.size (.slice A1 j c1) W → W.cell? ⟨w3.heap.size, 3, none⟩ = some (.slice A1 j c1) := fun W h => h.2
                    have hx3 : ∀ W, YT V w3.heap.size (.slice A1 j c1) W → W.cell? ⟨bA, oA + i * 4 + 3, none⟩ = some (.slice (some ⟨bV, oV, none⟩) u.n u.c) := fun W h => ((HBG.out W h).cell (p := ⟨bA, oA + i * 4 + 3, none⟩) hbA).trans (by rw [← eV]; exact HRO.out.2.2.2)
                    have hp0 : ∀ W, YT V w3.heap.size (.slice A1 j c1) W → W.cell? ⟨bP, oP + j, none⟩ = some (.int .i64 pj) := fun W h => ((HBG.out W h).cell (p := ⟨bP, oP + j, none⟩) hbP).trans cp
                    have hv0 : ∀ W, YT V w3.heap.size (.slice A1 j c1) W → W.cell? ⟨bV, oV + pj * 3, none⟩ = some (.bool v.nul) := fun W h => ((HBG.out W h).cell (p := ⟨bV, oV + pj * 3, none⟩) hbV).trans v0
                    have hv1 : ∀ W, YT V w3.heap.size (.slice A1 j c1) W → W.cell? ⟨bV, oV + pj * 3 + 1, none⟩ = some (.int .i64 v.n) := fun W h => ((HBG.out W h).cell (p := ⟨bV, oV + pj * 3 + 1, none⟩) hbV).trans v1
                    have hv2 : ∀ W, YT V w3.heap.size (.slice A1 j c1) W → W.cell? ⟨bV, oV + pj * 3 + 2, none⟩ = some (.string v.s) := fun W h => ((HBG.out W h).cell (p := ⟨bV, oV + pj * 3 + 2, none⟩) hbV).trans v2
                    have HV := hide hV
                    clear cp v0 v1 v2 hv hpj hV eV hun
                    refine region_pig (YT V w3.heap.size (.slice A1 j c1)) 16 [(0, 1), (1, 0), (2, 1), (3, 1), (4, 1), (5, 1), (6, 0), (7, 1), (8, 1), (9, 1), (10, 0), (11, 1), (12, 0), (13, 2), (14, 2), (15, 1), (16, 3)] (by kernel_rfl) (by kernel_rfl) (by rw [HV.out]; exact ⟨Below.refl _ _, BYV.out.cell 3 _ rfl⟩) ?_
                    simp only [opsPiG, List.filterMap_cons, List.filterMap_nil, List.getElem?_toArray, List.getElem?_cons_zero, List.getElem?_cons_succ, Option.map_some]
                    rw [HV.out]
                    repeat (first | (refine pig_any (v := _) rfl (fun W' => by go_simp <;> exact rfl) ?_; simp only [Act.put, List.setIfInBounds_toArray, List.set_cons_zero, List.set_cons_succ]) | (refine pig_take (v := _) rfl (fun W' hW' => by go_simp <;> exact rfl) ?_; simp only [Act.put, List.setIfInBounds_toArray, List.set_cons_zero, List.set_cons_succ]))
                    clear hy3 hx3 hp0 hv0 hv1 hv2
                    refine pig_run ?_
                    go_wp2_with fail
                    obtain ⟨V2, hV2, hr2, hl2⟩ : ∃ X, V.alloc (.cells #[.bool v.nul, .int .i64 v.n, .string v.s] 43) = X ∧ Row X X.heap.size (some ⟨V.heap.size, 0, none⟩) (vcs [v]) ∧ Le V X := ⟨_, rfl, (row_new V #[.bool v.nul, .int .i64 v.n, .string v.s] _ (0, 0)).more (by simp), (Below.refl _ _).alloc (Nat.le_refl _) _⟩
                    rw [hV2]
                    have HR2 := hide hr2
                    have HL22 := hide hl2
                    have HO2 := hide (own_below HOV.out hl2)
                    have BY2 := hide (BYV.out.below hl2 BYV.out.lt)
                    have HGV := hide (show w3.heap.size + 1 ≤ V2.heap.size from Nat.le_trans (Nat.succ_le_of_lt BYV.out.lt) hl2.size)
                    clear hV2 hr2 hl2
                    refine ⟨⟨(HL22.out : Below V.heap.size V V2).mono (Nat.le_of_lt BYV.out.lt), BY2.out.cell 3 _ rfl⟩, ?_⟩
                    refine pig_run ?_
                    go_wp2_with (at_builtin; refine wpList_append_row _ rfl (.tmp 77) (.tmp 89) 35 rfl (w3.heap.size + 1) 43 infoVs Tryd.underlying35 rfl (by omega) (.slice A1 j c1) j _ rfl HO2.out _ (some ⟨V.heap.size, 0, none⟩) 1 1 (vcs [v]) rfl rfl HR2.out vcs_one (by simp only [maxLen]; omega) (by omega) HGV.out ?_; intro v' w' hown' hg hat; obtain ⟨A3, c3, rfl, -, -⟩ := own_form hown'; have HO' := hide hown'; have HG := hide hg; clear hown' hg hat)
                    have HBW := hide (show Below (w3.heap.size + 1) V2 w' from below_own HG.out (Nat.le_refl _) HGV.out (fun g h => own_ge HO2.out h (Nat.le_refl _)))
                    have BYW := hide (BY2.out.below HBW.out (Nat.lt_succ_self _))
                    have y3 := BYW.out.cell 3 (.slice A1 j c1) rfl
                    have z3 := BYW.out.frozen 3
                    refine ⟨⟨Below.trans ((HL22.out : Below V.heap.size V V2).mono (Nat.le_of_lt BYV.out.lt)) (HBW.out.mono (Nat.le_succ _)), y3⟩, ?_⟩
                    refine pig_any (v := _) rfl (fun W' => by go_simp <;> exact rfl) ?_
                    simp only [Act.put, List.setIfInBounds_toArray, List.set_cons_zero, List.set_cons_succ]
                    refine pig_late ?_
                    go_wp2_with fail
                    refine pig_done ?_
                    obtain ⟨Q, hQ⟩ : ∃ Q, w'.setCell ⟨w3.heap.size, 3, none⟩ (.slice A3 (j + 1) c3) = Q := ⟨_, rfl⟩
                    have BQ := hide (show Box Q w3.heap.size #[.int .i64 u.k.id, .int .i64 u.k.bk, .int .i64 u.k.rw, .slice A3 (j + 1) c3] 37 by rw [← hQ]; exact BYW.out.set 3 _)
                    have HOQ := hide (show Q.ownsRow (w3.heap.size + 1) 43 3 (.slice A3 (j + 1) c3) (j + 1) (vcs (picks u.vals (pick.take (j + 1)))) by rw [← hQ, HPK.out, vcs_append]; exact own_other HO'.out (Nat.lt_succ_self _) _)
                    have HLQ := hide (show Le w3 Q by rw [← hQ]; exact Below.setCell (Below.trans (Below.trans HLV.out ((HL22.out : Below V.heap.size V V2).mono (Nat.le_of_lt BYV.out.lt))) (HBW.out.mono (Nat.le_succ _))) (Nat.le_refl _) _)
                    rw [hQ]
                    clear hQ y3 z3
                    go_wp2_with fail
                    exact ⟨⟨j + 1, c3, A3, by go_num, by omega, BQ, HOQ, HLQ⟩, by simp [intOf]; omega⟩
                  · obtain rfl : j = pn := by omega
                    have hjI : ¬ (j : Int) < j := by omega
                    have hall : pick.take j = pick := List.take_of_length_le (by rw [HPL.out]; exact Nat.le_refl _)
                    rw [hall] at HOr
                    obtain ⟨Z2, rfl⟩ : ∃ Z2, Z2 = wr := ⟨_, rfl⟩
                    have y0 := BYr.out.cell 0 (.int .i64 u.k.id) rfl
                    have y1 := BYr.out.cell 1 (.int .i64 u.k.bk) rfl
                    have y2 := BYr.out.cell 2 (.int .i64 u.k.rw) rfl
                    have y3 := BYr.out.cell 3 (.slice A1 j c1) rfl
                    have HO4 := hide (own_below HO3.out HLs.out)
                    have HSF4 := hide (fun x hx => (HSF3.out x hx).on HLs.out)
                    have hzw : w.heap.size ≤ Z2.heap.size := (HL4.out.trans HLs.out).size
                    have HYF := hide (show KFar Z2 (Value.slice As k cs).ownBlock ⟨u.k, A1, j, c1, picks u.vals pick⟩ from ⟨(picks_len _ _).trans HPL.out, by show j * 32 ≤ _; omega, fun hn => by
                      obtain ⟨b, o, h1, h2, h3⟩ := (Row.of_own HOr.out) hn
                      refine ⟨b, o, h1, h2, fun e => ?_, h3⟩
                      have h4 := (HOr.out.lt b (by rw [h1]; rfl)).1
                      have h5 := (HO3.out.lt b e).2
                      omega⟩)
                    clear hall
                    go_wp2_with (at_builtin; refine wpList_append_row _ rfl (.tmp 92) (.tmp 94) 23 rfl w.heap.size 37 infoK Tryd.underlying23 rfl (by omega) (.slice As k cs) k _ rfl (HO4.out.alloc _) _ (some ⟨Z2.heap.size, 0, none⟩) 1 1 (kcs [⟨u.k, A1, j, c1, picks u.vals pick⟩]) rfl rfl (row_new Z2 #[.int .i64 u.k.id, .int .i64 u.k.bk, .int .i64 u.k.rw, .slice A1 j c1] _ (0, 0)) kcs_one (by simp only [maxLen]; omega) (by omega) (by simp; omega) ?_; intro v' w' hown' hg hat; obtain ⟨A3, c3, rfl, -, -⟩ := own_form hown'; have HO' := hide hown'; have HG := hide hg; have HAT := hide hat; clear hown' hg hat)
                    have hal : Le Z2 (Z2.alloc (.cells #[.int .i64 u.k.id, .int .i64 u.k.bk, .int .i64 u.k.rw, .slice A1 j c1] 37)) := (Below.refl _ _).alloc (Nat.le_refl _) _
                    have HSN := hide (show ∀ x ∈ S ++ [⟨u.k, A1, j, c1, picks u.vals pick⟩], KFar w' (Value.slice A3 (k + 1) c3).ownBlock x from fun x hx => by
                      rcases List.mem_append.1 hx with hx | hx
                      · exact ((HSF4.out x hx).on hal).append HG.out HAT.out
                      · rw [List.mem_singleton.1 hx]
                        exact (HYF.out.on hal).append HG.out HAT.out)
                    have HLN := hide (show Le w w' from Below.trans (HL4.out.trans HLs.out) (Below.trans ((Below.refl _ _).alloc hzw _) (below_own HG.out (Nat.le_refl _) (by simp; omega) (fun g h => own_ge HO4.out h (Nat.le_refl _)))))
                    have HCN := hide (show (S ++ [(⟨u.k, A1, j, c1, picks u.vals pick⟩ : Kd)]).map cont = selC p pick (rows.take (i + 1)) by
                      rw [HST.out, if_pos (by unfold askedR; rw [HDV.out]; rfl), List.map_append, HSC.out]; rfl)
                    exact ⟨⟨i + 1, k + 1, c3, A3, _, rfl, by go_num, by omega, by omega, hide (by simp [HSL.out]), HCN, hide (by rw [kcs_append]; exact HO'.out), HSN, HLN⟩, by simp [intOf]; omega⟩
              · have HCN := hide (show S.map cont = selC p pick (rows.take (i + 1)) by
                  rw [HST.out, if_neg (by unfold askedR; rw [HDV.out, decide_eq_false hd2]; simp)]; exact HSC.out)
                have hd2' : (dv == 2) = false := by simpa using hd2
                go_wp2_with fail
                exact ⟨⟨i + 1, k, cs, As, S, rfl, by go_num, by omega, by omega, HSL, HCN, HO3, HSF3, HL4⟩, by simp [intOf]; omega⟩
            · obtain rfl : i = rn := by omega
              have hle : ¬ (i : Int) < i := by omega
              have hall : rows.take i = rows := List.take_of_length_le (by rw [HRL.out]; exact Nat.le_refl _)
              rw [hall] at HSC
              go_wp2_with fail
              go_ret2
              exact ⟨As, k, cs, S, 0, rfl, by rw [HS.out]; rfl, HSL.out, by rw [HS.out]; exact HSC.out, Row.of_own HO.out, fun x hx => (HSF.out x hx).has, HLr.out⟩
#print axioms refselect_any
end Go.Proofs.YtjedpjfmlaganaaDoor.vw
