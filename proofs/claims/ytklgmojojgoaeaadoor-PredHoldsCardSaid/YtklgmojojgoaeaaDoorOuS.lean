/-
  The law that what comes out of a row may come out of what is known of rows with it, walked.
-/
import Derived.Test.YtklgmojojgoaeaaDoorOuH
import Derived.Test.YtklgmojojgoaeaaDoorOuQ
import Derived.Test.YtklgmojojgoaeaaDoorOuR
namespace Go.Proofs.YtklgmojojgoaeaaDoor
open Go.RowKit
set_option linter.unusedVariables false

theorem infoRw : (Tryd.prog.info? 32).map (fun i => (i.zero, i.size, i.bytes)) = some (some (.slice none 0 0), 1, 24) := by kernel_rfl
theorem infoVal : (Tryd.prog.info? 38).map (fun i => (i.zero, i.size, i.bytes)) = some (some (.agg #[.bool false, .int .i64 0, .string ⟨#[]⟩]), 3, 32) := by kernel_rfl
theorem sok_st_of (k : Int) (l : List va.Val) : SOk (st.of k l) := by
  obtain ⟨e1, e2, e3, e4⟩ := st.of_c k l
  unfold SOk
  rw [e1, e3, e4]
  exact ⟨by omega, fun h => (st.ok_acc l).2 (by omega)⟩
theorem sok_known (cols : List va.Col) (own : List (List va.Val)) : ∀ s ∈ ou.known cols own, SOk s := by
  intro s hs
  unfold ou.known at hs
  obtain ⟨i, h, rfl⟩ := List.mem_mapIdx.1 hs
  exact sok_st_of _ _
theorem known_len (cols : List va.Col) (own : List (List va.Val)) : (ou.known cols own).length = cols.length := by simp [ou.known]
theorem known_snoc {cols : List va.Col} {j : Nat} {c : va.Col} (h : cols[j]? = some c) (own : List (List va.Val)) : ou.known (cols.take (j + 1)) own = ou.known (cols.take j) own ++ [st.of c.kind (ou.colV own j)] := by
  unfold ou.known
  rw [va.take_step h, List.mapIdx_append]
  have hj : j < cols.length := (List.getElem?_eq_some_iff.1 h).1
  simp [Nat.min_eq_left (Nat.le_of_lt hj)]
/-- Rows of their own, that may be. -/
def Good (cols : List va.Col) (rows own : List Rw) : Prop := ∀ r ∈ own, r ∈ rows ∧ va.rowV cols r.vals = 0
theorem one_val (v : va.Val) : ∀ u ∈ vcs [v], u.oneCell' = true := by
  intro u hu
  simp [vcs] at hu
  rcases hu with rfl | rfl | rfl <;> rfl
theorem one_sl (r : Rw) : ∀ u ∈ [Value.slice r.rA r.rn r.rc], u.oneCell' = true := by
  intro u hu
  rw [List.mem_singleton.1 hu]
  rfl
theorem rcs_snoc (l : List Rw) (r : Rw) : rcs (l ++ [r]) = rcs l ++ [.slice r.rA r.rn r.rc] := by simp [rcs]
theorem val_row (w : World) (v : va.Val) (t : TypeId) : Row (w.alloc (.cells #[.bool v.nul, .int .i64 v.n, .string v.s] t)) (w.heap.size + 1) (some ⟨w.heap.size, 0, none⟩) (vcs [v]) := row_new w #[.bool v.nul, .int .i64 v.n, .string v.s] t (0, 0)

set_option maxRecDepth 100000 in
set_option maxHeartbeats 20000000 in
theorem predholds_walk (w : World) (A : Option Addr) (n c : Nat) (cols : List va.Col) (hl : cols.length = n) (hn : n ≤ 9223372036854775807) (hs : ∀ c ∈ cols, c.name.size ≤ 9223372036854775807) (hr : Row w w.heap.size A (ccs cols))
    (A' : Option Addr) (n' c' : Nat) (l : List pr.Nd) (hl' : l.length = n') (hnc' : n' ≤ c') (hr' : Row w w.heap.size A' (ncs l)) (hh : ∀ n ∈ l, Has w w.heap.size n)
    (A2 : Option Addr) (n2 c2 : Nat) (rows : List Rw) (hl2 : rows.length = n2) (hn2 : n2 ≤ 9223372036854775807) (hr2 : Row w w.heap.size A2 (rcs rows)) (hh2 : ∀ r ∈ rows, RHas w w.heap.size r) (hin : ∀ r ∈ rows, ∀ v ∈ r.vals, st.In v.n) (hT : Tabs8 w) :
    Calls Tryd.prog 6 #[.slice A n c, .slice A' n' c', .slice A2 n2 c2] w fun e w' => e = .returned (.bool true) ∧ Below w.heap.size w w' := by
  obtain ⟨zst, bst, hist, hzst, hbst⟩ : ∃ z b, (Tryd.prog.info? 47).map (fun i => (i.zero, i.size, i.bytes)) = some (some z, 10, b) ∧ z.cells.size = 10 ∧ b ≤ 200 := by
    have h1 := infoSt
    cases hi : Tryd.prog.info? 47 with
    | none => rw [hi] at h1; cases h1
    | some i =>
      rw [hi] at h1
      simp only [Option.map_some, Option.some.injEq, Prod.mk.injEq, decide_eq_true_eq] at h1
      obtain ⟨z, hz, hzs⟩ : ∃ z, i.zero = some z ∧ z.cells.size = 10 := by
        cases hz : i.zero with
        | none => rw [hz] at h1; exact absurd h1.1 (by simp)
        | some z => rw [hz] at h1; exact ⟨z, rfl, by simpa using h1.1⟩
      exact ⟨z, i.bytes, by simp [hz, h1.2.1], hzs, h1.2.2⟩
  have HIST := hide hist
  have HL := hide hl
  have HS := hide hs
  have HR := hide hr
  have HL2 := hide hl2
  have HR2 := hide hr2
  have HH2 := hide hh2
  have HIN := hide hin
  have HT := hide hT
  have hfw := hide (fun (w1 : World) (hb : Below w.heap.size w w1) => few_any w1 A' n' c' l hl' hnc' ((Le.row hb hr' (Nat.le_refl _)).more hb.size) (fun n hn => ((hh n hn).on hb (Nat.le_refl _)).more hb.size))
  clear hl hs hr hl' hr' hh hl2 hr2 hh2 hT hist hin
  go_enter Tryd.func6, Tryd.ntmps6
  go_wp2_with fail
  refine (shown_any w).mono ?_
  rintro e w1 ⟨rfl, hb1⟩
  have HB1 := hide (show Le w w1 from hb1)
  have hf1 := hfw.out w1 hb1
  clear hb1 hfw
  have HFW := hide hf1
  clear hf1
  go_wp2_with fail
  refine HFW.out.mono ?_
  rintro e w' ⟨⟨p, pc, l', rfl, hpl, hp45, hppc, hpr, hph⟩, rfl⟩
  have HPL := hide hpl
  have HPR := hide hpr
  have HPH := hide hph
  clear hpl hpr hph HFW
  go_wp2_with fail
  refine (refmay_any w1 A n c cols HL.out hn ((HB1.out.row HR.out (Nat.le_refl _)).more HB1.out.size) A' p pc l' HPL.out (by omega) HPR.out HPH.out (HT.out.le HB1.out)).mono ?_
  rintro e w2 ⟨rfl, hb⟩
  have HB2 := hide (show Le w w2 from HB1.out.trans hb)
  have HPR2 := hide ((Le.row hb HPR.out (Nat.le_refl _)).more hb.size)
  have HPH2 := hide (fun n hn => ((HPH.out n hn).on hb (Nat.le_refl _)).more hb.size)
  obtain ⟨my, hmy⟩ : ∃ b, pr.mayP cols l' = b := ⟨_, rfl⟩
  rw [hmy]
  clear hb HPR HPH
  cases my
  · go_wp2_with fail
    go_ret
    exact ⟨rfl, HB2.out⟩
  · have HMF := hide (pr.may_fine hmy)
    clear hmy
    go_wp2_with fail
    refine (refschema_any w2 A n c cols HL.out hn HS.out ((HB2.out.row HR.out (Nat.le_refl _)).more HB2.out.size)).mono ?_
    rintro e w3 ⟨rfl, hb⟩
    have HB3 := hide (show Le w w3 from HB2.out.trans hb)
    have HPR3 := hide ((Le.row hb HPR2.out (Nat.le_refl _)).more hb.size)
    have HPH3 := hide (fun n hn => ((HPH2.out n hn).on hb (Nat.le_refl _)).more hb.size)
    obtain ⟨sv, hsv⟩ : ∃ s, va.schemaV cols = s := ⟨_, rfl⟩
    rw [hsv]
    obtain ⟨sb, hsb⟩ : ∃ b, (sv != 0) = b := ⟨_, rfl⟩
    clear hb HPR2 HPH2
    cases sb
    · have hsv0 : sv = 0 := by simpa using hsb
      have hn6 : n ≤ 6 := by
        have := schema_few (by rw [hsv, hsv0])
        rwa [HL.out] at this
      clear hsv
      go_upto_region 7 with fail
      obtain ⟨W6, hW6⟩ : ∃ W, w3.alloc (.cells #[] 32) = W := ⟨_, rfl⟩
      have HOW := hide (show W6.ownsRow w3.heap.size 32 1 (.slice (some ⟨w3.heap.size, 0, none⟩) 0 0) 0 (rcs []) by
        rw [← hW6]
        exact World.ownsRow_lit (base := w3.heap.size) (e := 32) (size := 1) w3 #[] 0 (by simp) (by simp) rfl)
      have HL6 := hide (show Le w3 W6 by rw [← hW6]; exact (Below.refl _ _).alloc (Nat.le_refl _) _)
      rw [hW6]
      clear hW6
      go_wp2_with fail
      go_loopw [9, 10] (fun s i wr => ∃ (j m cs : Nat) (As : Option Addr) (own : List Rw), i = .int .i64 j ∧ j ≤ n2 ∧ j ≤ 20 ∧ m ≤ j ∧ s = .slice As m cs ∧ Hid (own.length = m) ∧ Hid (Good cols rows own) ∧ Hid (wr.ownsRow w3.heap.size 32 1 (.slice As m cs) m (rcs own)) ∧ Hid (Le w3 wr)) (fun _ i _ => n2 - (intOf i).toNat)
      case atStart => exact ⟨0, 0, _, _, [], rfl, Nat.zero_le _, by omega, Nat.le_refl _, rfl, hide rfl, hide (fun r hr => by cases hr), HOW, HL6⟩
      case round =>
        obtain ⟨j, m, cs, As, own, rfl, hj, hj20, hmj, rfl, HM, HG, HO, HLr⟩ := hrel
        have HBr := hide (show Le w wr from HB3.out.trans HLr.out)
        obtain ⟨Y, rfl⟩ : ∃ Y, Y = wr := ⟨_, rfl⟩
        obtain ⟨b1, hb1⟩ : ∃ b, decide ((j : Int) < (n2 : Int)) = b := ⟨_, rfl⟩
        obtain ⟨b2, hb2⟩ : ∃ b, decide ((j : Int) < 20) = b := ⟨_, rfl⟩
        go_upto_region 8 with fail
        go_cut [40] (fun s wx => s = .bool (b1 && b2) ∧ Y = wx)
        case first =>
          by_cases h1 : j < n2
          · have h1I : (j : Int) < n2 := by omega
            obtain rfl : b1 = true := by rw [← hb1]; exact decide_eq_true h1I
            go_wp2_with fail
            go_meet
            exact ⟨by simp, rfl⟩
          · have h1I : ¬ (j : Int) < n2 := by omega
            obtain rfl : b1 = false := by rw [← hb1]; exact decide_eq_false h1I
            go_wp2_with fail
            go_meet
            exact ⟨rfl, rfl⟩
        case rest =>
          obtain ⟨rfl, rfl⟩ := hcut
          obtain ⟨b, hb⟩ : ∃ b, (b1 && b2) = b := ⟨_, rfl⟩
          have HJ := hide (show b = decide (j < n2 ∧ j < 20) by rw [← hb, ← hb1, ← hb2, Bool.eq_iff_iff]; simp; omega)
          rw [hb]
          clear hb hb1 hb2
          cases b
          · clear HJ
            obtain ⟨ov, hov⟩ : ∃ ov, own.map (·.vals) = ov := ⟨_, rfl⟩
            have HRA := hide (show ∀ r ∈ own, RHas w w.heap.size r ∧ r.vals.length = n ∧ r.vals ∈ ov ∧ ∀ v ∈ r.vals, st.In v.n from fun r hr => by
              obtain ⟨h1, h2⟩ := HG.out r hr
              refine ⟨HH2.out r h1, ?_, ?_, HIN.out r h1⟩
              · rw [← row_zero h2]; exact HL.out
              · rw [← hov]; exact List.mem_map_of_mem (f := Rw.vals) hr)
            have HOV := hide hov
            have HRO := hide (Row.of_own HO.out)
            have HCL := hide (show ∀ k, (ou.colV ov k).length = m from fun k => by rw [← hov]; simp [ou.colV, HM.out])
            have HCI := hide (show ∀ k, k < n → ∀ v ∈ ou.colV ov k, st.In v.n from fun k hk v hv => by
              rw [← hov] at hv
              unfold ou.colV at hv
              rw [List.map_map] at hv
              obtain ⟨r, hr, rfl⟩ := List.mem_map.1 hv
              obtain ⟨-, h2, -, h4⟩ := HRA.out r hr
              refine h4 _ ?_
              show r.vals.getD k pr.none ∈ r.vals
              rw [List.getD_eq_getElem?_getD, List.getElem?_eq_getElem (by omega)]
              exact List.getElem_mem _)
            have HCA := hide (show ∀ (k q : Nat) (r : Rw), own[q]? = some r → k < n → ∃ v, r.vals[k]? = some v ∧ (ou.colV ov k)[q]? = some v from fun k q r hr hk => by
              obtain ⟨-, h2, -, -⟩ := HRA.out r (List.mem_of_getElem? hr)
              refine ⟨r.vals[k]'(by omega), List.getElem?_eq_getElem (by omega), ?_⟩
              rw [← hov]
              unfold ou.colV
              rw [List.map_map, List.getElem?_map, hr]
              show some (r.vals.getD k pr.none) = _
              rw [List.getD_eq_getElem?_getD, List.getElem?_eq_getElem (by omega)]
              rfl)
            clear hov
            go_upto_region 13 with fail
            obtain ⟨W12, hW12⟩ : ∃ W, Y.alloc (.cells #[] 47) = W := ⟨_, rfl⟩
            have HOS := hide (show W12.ownsRow Y.heap.size 47 10 (.slice (some ⟨Y.heap.size, 0, none⟩) 0 0) 0 (scs (ou.known (cols.take 0) ov)) by
              rw [← hW12]
              exact World.ownsRow_lit (base := Y.heap.size) (e := 47) (size := 10) Y #[] 0 (by simp) (by simp) rfl)
            have HL12 := hide (show Le Y W12 by rw [← hW12]; exact (Below.refl _ _).alloc (Nat.le_refl _) _)
            rw [hW12]
            clear hW12
            go_wp2_with fail
            go_loopw [11, 12] (fun s i wr => ∃ (k ks : Nat) (Ks : Option Addr), i = .int .i64 k ∧ k ≤ n ∧ s = .slice Ks k ks ∧ Hid (wr.ownsRow Y.heap.size 47 10 (.slice Ks k ks) k (scs (ou.known (cols.take k) ov))) ∧ Hid (Le Y wr)) (fun _ i _ => n - (intOf i).toNat)
            case atStart => exact ⟨0, _, _, rfl, Nat.zero_le _, rfl, HOS, HL12⟩
            case round =>
              obtain ⟨k, ks, Ks, rfl, hk, rfl, HOK, HLk⟩ := hrel
              obtain ⟨Z, rfl⟩ : ∃ Z, Z = wr := ⟨_, rfl⟩
              have HBZ := hide (show Le w Z from HBr.out.trans HLk.out)
              by_cases hkn : k < n
              · obtain ⟨cl, hcl⟩ : ∃ cl, cols[k]? = some cl := ⟨_, List.getElem?_eq_getElem (by rw [HL.out]; exact hkn)⟩
                obtain ⟨bC, oC, rfl, hbC, -, rk⟩ := row_at2 HR.out hcl
                have HKS := hide (known_snoc hcl ov)
                have HRK := hide rk
                have hknI : (k : Int) < n := by omega
                clear hcl rk
                go_upto_region 17 with fail
                obtain ⟨W16, hW16⟩ : ∃ W, Z.alloc (.cells #[] 38) = W := ⟨_, rfl⟩
                have HOC := hide (show W16.ownsRow Z.heap.size 38 3 (.slice (some ⟨Z.heap.size, 0, none⟩) 0 0) 0 (vcs ((ou.colV ov k).take 0)) by
                  rw [← hW16]
                  exact World.ownsRow_lit (base := Z.heap.size) (e := 38) (size := 3) Z #[] 0 (by simp) (by simp) rfl)
                have HL16 := hide (show Le Z W16 by rw [← hW16]; exact (Below.refl _ _).alloc (Nat.le_refl _) _)
                rw [hW16]
                clear hW16
                go_wp2_with fail
                go_loopw [13, 14] (fun s i wr => ∃ (q qs : Nat) (Qs : Option Addr), i = .int .i64 q ∧ q ≤ m ∧ s = .slice Qs q qs ∧ Hid (wr.ownsRow Z.heap.size 38 3 (.slice Qs q qs) q (vcs ((ou.colV ov k).take q))) ∧ Hid (Le Z wr)) (fun _ i _ => m - (intOf i).toNat)
                case atStart => exact ⟨0, _, _, rfl, Nat.zero_le _, rfl, HOC, HL16⟩
                case round =>
                  obtain ⟨q, qs, Qs, rfl, hq, rfl, HQ, HLq⟩ := hrel
                  have HYq := hide (show Le Y wr from HLk.out.trans HLq.out)
                  have HBq := hide (show Le w wr from HBZ.out.trans HLq.out)
                  by_cases hqm : q < m
                  · obtain ⟨⟨rA, rn, rc, rv⟩, hr⟩ : ∃ r, own[q]? = some r := ⟨_, List.getElem?_eq_getElem (by rw [HM.out]; exact hqm)⟩
                    obtain ⟨bO, oO, rfl, hbO, co⟩ := HRO.out.at_ (rcs_at hr)
                    obtain ⟨hrh, hrn, -, -⟩ := HRA.out _ (List.mem_of_getElem? hr)
                    obtain ⟨v, hv1, hv2⟩ := HCA.out k q _ hr hkn
                    obtain ⟨bR, oR, hrA, hbR, d0, d1, d2⟩ := row_at3 hrh.2.2.1 hv1
                    simp only at hrA hrn co
                    subst hrA
                    have hrn2 : n = rn := by have := hrh.1; simp only at this; omega
                    subst hrn2
                    have HTK := hide (va.take_step hv2)
                    have e0 : wr.cell? ⟨bO, oO + q, none⟩ = some (.slice (some ⟨bR, oR, none⟩) n rc) := (HYq.out.cell (p := ⟨bO, oO + q, none⟩) hbO).trans co
                    have e1 : wr.cell? ⟨bR, oR + k * 3, none⟩ = some (.bool v.nul) := (HBq.out.cell (p := ⟨bR, oR + k * 3, none⟩) hbR).trans d0
                    have e2 : wr.cell? ⟨bR, oR + k * 3 + 1, none⟩ = some (.int .i64 v.n) := (HBq.out.cell (p := ⟨bR, oR + k * 3 + 1, none⟩) hbR).trans d1
                    have e3 : wr.cell? ⟨bR, oR + k * 3 + 2, none⟩ = some (.string v.s) := (HBq.out.cell (p := ⟨bR, oR + k * 3 + 2, none⟩) hbR).trans d2
                    have hqI : (q : Int) < m := by omega
                    have hzq := HLq.out.size
                    clear hr co hrh hrn hv1 hv2 d0 d1 d2
                    go_wp2_with (at_builtin; refine wpList_append_row _ rfl (.tmp 71) (.tmp 79) 31 rfl Z.heap.size 38 infoVal Tryd.underlying31 rfl (by omega) (.slice Qs q qs) q _ rfl (HQ.out.alloc _) _ (some ⟨wr.heap.size, 0, none⟩) 1 1 (vcs [v]) rfl rfl (val_row wr v _) (one_val v) (by simp only [maxLen]; omega) (by omega) (by simp; omega) ?_; intro v' w' hown' hg hat; obtain ⟨A1, c1, rfl, -, -⟩ := own_form hown'; have HO' := hide hown'; have HGR := hide hg; clear hown' hg hat)
                    have HBK := hide (show Below Z.heap.size wr w' from Below.trans ((Below.refl _ _).alloc hzq _) (below_own HGR.out (Nat.le_refl _) (by simp; omega) (fun g h => own_ge HQ.out h (Nat.le_refl _))))
                    have HB' := hide (show Le Z w' from Below.trans HLq.out HBK.out)
                    exact ⟨⟨q + 1, c1, A1, by go_num, by omega, rfl, hide (by rw [HTK.out, vcs_append]; exact HO'.out), HB'⟩, by simp [intOf]; omega⟩
                  · obtain rfl : q = m := by omega
                    have hall : (ou.colV ov k).take q = ou.colV ov k := List.take_of_length_le (by rw [HCL.out]; exact Nat.le_refl _)
                    rw [hall] at HQ
                    have hof := refof_any wr cl.kind Qs q qs (ou.colV ov k) (HCL.out k) (by omega) (HCI.out k hkn) (Row.of_own HQ.out)
                    have e0 : wr.cell? ⟨bC, oC + k * 2 + 1, none⟩ = some (.int .i64 cl.kind) := (HBq.out.cell (p := ⟨bC, oC + k * 2 + 1, none⟩) hbC).trans HRK.out
                    have HOKq := hide (own_below HOK.out HLq.out)
                    obtain ⟨so, hso⟩ : ∃ s, st.of cl.kind (ou.colV ov k) = s := ⟨_, rfl⟩
                    rw [hso] at hof HKS
                    obtain ⟨cN, hn, ⟨mn, mi, ms⟩, ⟨xn, xi, xs⟩, su, ov'⟩ := so
                    have HOF := hide hof
                    simp only [st.cells] at HOF
                    clear hof hall hso HQ
                    go_wp2_with fail
                    refine HOF.out.mono ?_
                    rintro e V1 ⟨rfl, hb⟩
                    have HYV := hide (show Le Y V1 from HYq.out.trans hb)
                    have HO1 := hide (own_below HOKq.out hb)
                    have hzV := HYV.out.size
                    clear hb e0 HOKq HOK
                    go_wp2_with (at_builtin; refine wpList_append_row _ rfl (.tmp 81) (.tmp 89) 42 rfl Y.heap.size 47 HIST.out Tryd.underlying42 hzst (by omega) (.slice Ks k ks) k _ rfl (HO1.out.alloc _) _ (some ⟨V1.heap.size, 0, none⟩) 1 1 (st.cells ⟨cN, hn, ⟨mn, mi, ms⟩, ⟨xn, xi, xs⟩, su, ov'⟩).toList rfl rfl (row_new V1 (st.cells ⟨cN, hn, ⟨mn, mi, ms⟩, ⟨xn, xi, xs⟩, su, ov'⟩) _ (0, 0)) (one_st _) (by simp only [maxLen]; omega) (Nat.le_trans (Nat.mul_le_mul (show k + 1 ≤ 7 by omega) hbst) (by omega)) (by simp; omega) ?_; intro v' w' hown' hg hat; obtain ⟨A1, c1, rfl, -, -⟩ := own_form hown'; have HO' := hide hown'; have HGR := hide hg; clear hown' hg hat)
                    have HBK := hide (show Below Y.heap.size V1 w' from Below.trans ((Below.refl _ _).alloc hzV _) (below_own HGR.out (Nat.le_refl _) (by simp; omega) (fun g h => own_ge HO1.out h (Nat.le_refl _))))
                    have HB' := hide (show Le Y w' from Below.trans HYV.out HBK.out)
                    exact ⟨⟨k + 1, c1, A1, by go_num, by omega, rfl, hide (by rw [HKS.out, scs_append]; exact HO'.out), HB'⟩, by simp [intOf]; omega⟩
              · obtain rfl : k = n := by omega
                have hall : cols.take k = cols := List.take_of_length_le (by rw [HL.out]; exact Nat.le_refl _)
                rw [hall] at HOK
                have HTL := hide (show (ou.known cols ov).length = k by rw [known_len, HL.out])
                have HSO := hide (sok_known cols ov)
                have HFI := hide (show ∀ i n, l'[i]? = some n → pr.Fine k i n from fun i n h => by have := HMF.out.2.2 i n h; rwa [HL.out] at this)
                have hp1 : 1 ≤ p ∧ p ≤ 1000 := by have := HMF.out.1; rw [HPL.out] at this; omega
                have HRS := hide (Row.of_own HOK.out)
                have HLZ := hide (show Le w3 Z from HLr.out.trans HLk.out)
                obtain ⟨R, hR⟩ : ∃ R, ou.outV (fun n => ou.knownV n ((ou.known cols ov).getD n.col.toNat nst)) l' = R := ⟨_, rfl⟩
                have hpo := hide (fun (W : World) (hb : Le Z W) => hR ▸ outcomes_any W A' p pc l' Ks k ks (ou.known cols ov) HPL.out hp1 (((HLZ.out.trans hb).row HPR3.out (Nat.le_refl _)).more (HLZ.out.trans hb).size) (fun n hn => ((HPH3.out n hn).on (HLZ.out.trans hb) (Nat.le_refl _)).more (HLZ.out.trans hb).size) HTL.out (by omega) ((hb.row HRS.out (Nat.le_refl _)).more hb.size) HSO.out HFI.out)
                have hpm := hide (fun (W : World) (hb : Le Z W) => hR ▸ match_any W A' p pc l' Ks k ks (ou.known cols ov) HPL.out hp1 (((HLZ.out.trans hb).row HPR3.out (Nat.le_refl _)).more (HLZ.out.trans hb).size) (fun n hn => ((HPH3.out n hn).on (HLZ.out.trans hb) (Nat.le_refl _)).more (HLZ.out.trans hb).size) HTL.out (by omega) ((hb.row HRS.out (Nat.le_refl _)).more hb.size) HSO.out HFI.out)
                have HHO := hide (show ∀ r ∈ own, (0 ≤ pr.evalV l' r.vals ∧ pr.evalV l' r.vals ≤ 2) ∧ ou.get R (pr.evalV l' r.vals).toNat = true from fun r hr => by
                  have := ou.holds (cols := cols) (own := ov) (l := l') (r := r.vals) nst (HRA.out r hr).2.2.1 HMF.out.1 HMF.out.2.2
                  rwa [hR] at this)
                clear hR hall HTL HSO HRS HOK
                obtain ⟨ra, rb, rc⟩ := R
                simp only [ou.T3.cells] at hpo
                go_wp2_with fail
                refine (hpo.out Z (Le.refl _)).mono ?_
                rintro e V1 ⟨rfl, hb⟩
                obtain ⟨V2, hV2, b2, hb2⟩ := t3_box2 V1 ⟨ra, rb, rc⟩ 48
                simp only [ou.T3.cells, ou.zero] at hV2 b2
                have HV2 := hide hV2
                have HL2' := hide (show Le Z V2 from Le.trans hb hb2)
                have B12 := hide b2
                clear hb hV2 b2 hb2 hpo
                go_upto_region 23 with (refine wpList_store_row rfl 48 _ _ rfl V1.heap.size #[.bool ra, .bool rb, .bool rc] rfl rfl 48 _ (box_new _ _ _) (by kernel_rfl) rfl (t3_one ⟨ra, rb, rc⟩) ?_)
                rw [HV2.out]
                clear HV2
                go_wp2_with fail
                go_loopw [16] (fun i wr => ∃ q : Nat, i = .int .i64 q ∧ q ≤ m ∧ Hid (Le V2 wr)) (fun i _ => m - (intOf i).toNat)
                case atStart => exact ⟨0, rfl, Nat.zero_le _, hide (Le.refl _)⟩
                case round =>
                  obtain ⟨q, rfl, hq, HLq⟩ := hrel
                  obtain ⟨X, rfl⟩ : ∃ X, X = wr := ⟨_, rfl⟩
                  have HZX := hide (show Le Z X from HL2'.out.trans HLq.out)
                  have HYX := hide (show Le Y X from HLk.out.trans HZX.out)
                  have HBX := hide (show Le w X from HBr.out.trans HYX.out)
                  have HWX := hide (show Le w3 X from HLr.out.trans HYX.out)
                  by_cases hqm : q < m
                  · obtain ⟨⟨rA, rn, rcc, rv⟩, hr⟩ : ∃ r, own[q]? = some r := ⟨_, List.getElem?_eq_getElem (by rw [HM.out]; exact hqm)⟩
                    obtain ⟨bO, oO, rfl, hbO, co⟩ := HRO.out.at_ (rcs_at hr)
                    obtain ⟨hrh, hrn, -, -⟩ := HRA.out _ (List.mem_of_getElem? hr)
                    obtain ⟨hx3, hget⟩ := HHO.out _ (List.mem_of_getElem? hr)
                    have hrn2 : k = rn := by have := hrh.1; simp only at this hrn; omega
                    subst hrn2
                    have HRH := hide hrh
                    have hev := hide (fun (W : World) (hb : Le X W) => eval_any W A' p pc l' rA k rcc rv HPL.out hp1 ((Le.row (HWX.out.trans hb) HPR3.out (Nat.le_refl _)).more (HWX.out.trans hb).size) (fun n hn => ((HPH3.out n hn).on (HWX.out.trans hb) (Nat.le_refl _)).more (HWX.out.trans hb).size) HRH.out.1 HRH.out.2.1 (((HBX.out.trans hb).row HRH.out.2.2.1 (Nat.le_refl _)).more (HBX.out.trans hb).size) HFI.out)
                    have e0 : X.cell? ⟨bO, oO + q, none⟩ = some (.slice rA k rcc) := (HYX.out.cell (p := ⟨bO, oO + q, none⟩) hbO).trans co
                    have hqI : (q : Int) < m := by omega
                    obtain ⟨x, hx⟩ : ∃ x, pr.evalV l' rv = x := ⟨_, rfl⟩
                    simp only at hx3 hget
                    rw [hx] at hev hx3 hget
                    clear hr co hrh hrn hx
                    go_wp2_with fail
                    refine (hev.out X (Le.refl _)).mono ?_
                    rintro e V3 ⟨rfl, hb⟩
                    have HL3 := hide (show Le V2 V3 from HLq.out.trans hb)
                    have B3 := hide (B12.out.below HL3.out B12.out.lt)
                    clear hb e0 hev
                    have hx012 : (x = 0 ∧ ra = true) ∨ (x = 1 ∧ rb = true) ∨ (x = 2 ∧ rc = true) := by
                      rcases (show x = 0 ∨ x = 1 ∨ x = 2 by omega) with rfl | rfl | rfl
                      · exact Or.inl ⟨rfl, hget⟩
                      · exact Or.inr (Or.inl ⟨rfl, hget⟩)
                      · exact Or.inr (Or.inr ⟨rfl, hget⟩)
                    clear hget hx3
                    rcases hx012 with ⟨rfl, rfl⟩ | ⟨rfl, rfl⟩ | ⟨rfl, rfl⟩
                    · have q0 := B3.out.cell 0 (.bool true) rfl
                      go_wp2_with fail
                      exact ⟨⟨q + 1, by go_num, by omega, HL3⟩, by simp [intOf]; omega⟩
                    · have q0 := B3.out.cell 1 (.bool true) rfl
                      go_wp2_with fail
                      exact ⟨⟨q + 1, by go_num, by omega, HL3⟩, by simp [intOf]; omega⟩
                    · have q0 := B3.out.cell 2 (.bool true) rfl
                      go_wp2_with fail
                      refine (hpm.out V3 (HL2'.out.trans HL3.out)).mono ?_
                      rintro e V4 ⟨rfl, hb⟩
                      have HL4 := hide (show Le V2 V4 from HL3.out.trans hb)
                      clear hb
                      go_wp2_with fail
                      exact ⟨⟨q + 1, by go_num, by omega, HL4⟩, by simp [intOf]; omega⟩
                  · obtain rfl : q = m := by omega
                    go_wp2_with fail
                    go_ret
                    exact ⟨rfl, HBX.out⟩
          · have hjj : j < n2 ∧ j < 20 := by have := HJ.out; simpa using this
            obtain ⟨⟨rA, rn, rc, rv⟩, hr⟩ : ∃ r, rows[j]? = some r := ⟨_, List.getElem?_eq_getElem (by rw [HL2.out]; exact hjj.1)⟩
            obtain ⟨bR, oR, rfl, hbR, cr⟩ := HR2.out.at_ (rcs_at hr)
            have HRM := hide (List.mem_of_getElem? hr)
            have HRH := hide (HH2.out _ (List.mem_of_getElem? hr))
            have hnj : (j : Int) < n2 := by omega
            obtain ⟨x, hx⟩ : ∃ x, va.rowV cols rv = x := ⟨_, rfl⟩
            have hrw := hide (fun (W : World) (hb : Le w W) => hx ▸ refrow_any W A n c cols HL.out hn ((Le.row hb HR.out (Nat.le_refl _)).more hb.size) rA rn rc rv HRH.out.1 HRH.out.2.1 HRH.out.2.2.2 ((Le.row hb HRH.out.2.2.1 (Nat.le_refl _)).more hb.size) (HT.out.le hb))
            obtain ⟨z, hz⟩ : ∃ b, (x == 0) = b := ⟨_, rfl⟩
            have HE := hide (fun (W : World) (h : Le w W) => (h.cell (p := ⟨bR, oR + j, none⟩) hbR).trans cr)
            clear cr hr
            have e0 : Y.cell? ⟨bR, oR + j, none⟩ = some (.slice rA rn rc) := HE.out Y HBr.out
            go_wp2_with fail
            refine (hrw.out Y HBr.out).mono ?_
            rintro e V1 ⟨rfl, hb⟩
            have HL1 := hide (show Le w3 V1 from HLr.out.trans hb)
            have HO1 := hide (own_below HO.out hb)
            clear hb e0
            cases z
            · go_wp2_with fail
              exact ⟨⟨j + 1, m, cs, As, own, by go_num, by omega, by omega, by omega, rfl, HM, HG, HO1, HL1⟩, by simp [intOf]; omega⟩
            · have e0 := HE.out V1 (HB3.out.trans HL1.out)
              have hz1 := HL1.out.size
              have HG1 := hide (show Good cols rows (own ++ [⟨rA, rn, rc, rv⟩]) by
                intro r hr
                rcases List.mem_append.1 hr with hr | hr
                · exact HG.out r hr
                · rw [List.mem_singleton.1 hr]
                  refine ⟨HRM.out, ?_⟩
                  show va.rowV cols rv = 0
                  rw [hx]
                  simpa using hz)
              go_wp2_with (at_builtin; refine wpList_append_row _ rfl (.tmp 50) (.tmp 55) 24 rfl w3.heap.size 32 infoRw Tryd.underlying24 rfl (by omega) (.slice As m cs) m _ rfl (HO1.out.alloc _) _ (some ⟨V1.heap.size, 0, none⟩) 1 1 [.slice rA rn rc] rfl rfl (row_one V1 (.slice rA rn rc) _ (0, 0)) (one_sl ⟨rA, rn, rc, rv⟩) (by simp only [maxLen]; omega) (by omega) (by simp; omega) ?_; intro v' w' hown' hg hat; obtain ⟨A1, c1, rfl, -, -⟩ := own_form hown'; have HO' := hide hown'; have HGR := hide hg; clear hown' hg hat)
              have HBK := hide (show Below w3.heap.size V1 w' from Below.trans ((Below.refl _ _).alloc hz1 _) (below_own HGR.out (Nat.le_refl _) (by simp; omega) (fun g h => own_ge HO1.out h (Nat.le_refl _))))
              have HB' := hide (show Le w3 w' from Below.trans HL1.out HBK.out)
              exact ⟨⟨j + 1, m + 1, c1, A1, own ++ [⟨rA, rn, rc, rv⟩], by go_num, by omega, by omega, by omega, rfl, hide (by simp [HM.out]), HG1, hide (by rw [rcs_snoc]; exact HO'.out), HB'⟩, by simp [intOf]; omega⟩
    · go_wp2_with fail
      go_ret
      exact ⟨rfl, HB3.out⟩
#print axioms predholds_walk
end Go.Proofs.YtklgmojojgoaeaaDoor
