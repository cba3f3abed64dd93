/-
  The law on predicates turned, walked (written by genPrH.py).
-/
import Derived.Test.YtklgmojojgoaeaaDoorPrHa
namespace Go.Proofs.YtklgmojojgoaeaaDoor
open Go.RowKit
set_option linter.unusedVariables false

set_option maxRecDepth 100000 in
set_option maxHeartbeats 8000000 in
theorem predturned_walk (w : World) (A : Option Addr) (n c : Nat) (cols : List va.Col) (hl : cols.length = n) (hn : n ≤ 9223372036854775807) (hs : ∀ c ∈ cols, c.name.size ≤ 9223372036854775807) (hr : Row w w.heap.size A (ccs cols))
    (A' : Option Addr) (n' c' : Nat) (l0 : List pr.Nd) (hl' : l0.length = n') (hnc' : n' ≤ c') (hn' : n' ≤ 9223372036854775807) (hr' : Row w w.heap.size A' (ncs l0)) (hh : ∀ n ∈ l0, Has w w.heap.size n) (rr : Rw) (hrr : RHas w w.heap.size rr) (hT : Tabs8 w) :
    Calls Tryd.prog 4 #[.slice A n c, .slice A' n' c', .slice rr.rA rr.rn rr.rc] w fun e w' => e = .returned (.bool true) ∧ Below w.heap.size w w' := by
  have HL := hide hl
  have HS := hide hs
  have HR := hide hr
  have HT := hide hT
  have H1 := hide hl'
  have H2 := hide hr'
  have H3 := hide hh
  have H4 := hide hrr
  clear hl hs hr hl' hr' hh hrr hT
  go_enter Tryd.func4, Tryd.ntmps4
  go_wp2_with fail
  refine (shown_any w).mono ?_
  rintro e w1 ⟨rfl, hb1⟩
  have HB1 := hide (show Le w w1 from hb1)
  clear hb1
  go_upto_region 2 with fail
  go_upto_if 20 with fail
  go_cut [1] (fun s1 wx => ∃ (N pc : Nat) (l : List pr.Nd), s1 = .slice A' N pc ∧ wx = w1 ∧ l.length = N ∧ N ≤ 35 ∧ Row w w.heap.size A' (ncs l) ∧ ∀ n ∈ l, Has w w.heap.size n)
  case first =>
    by_cases h : 35 < n'
    · have d1 : decide (35 < (n' : Int)) = true := decide_eq_true (by omega)
      have hc1 : (35 : Int) ≤ (c' : Int) := by omega
      have hc2 : (35 : Nat) ≤ c' := by omega
      go_wp2_with fail
      go_meet
      exact ⟨35, c', l0.take 35, rfl, rfl, by rw [List.length_take, H1.out]; omega, by omega, by rw [ncs_take]; exact H2.out.take _, fun n hn => H3.out n (List.mem_of_mem_take hn)⟩
    · have d1 : decide (35 < (n' : Int)) = false := decide_eq_false (by omega)
      go_wp2_with fail
      go_meet
      exact ⟨n', c', l0, rfl, rfl, H1.out, by omega, H2.out, H3.out⟩
  case rest =>
    obtain ⟨N, pc, l, rfl, rfl, hN, hN35, hPR, hPH⟩ := hcut
    have HN := hide hN
    have hpt : PT w l A' N rr wc := ⟨HB1.out, (HB1.out.row hPR (Nat.le_refl _)).more HB1.out.size, fun n hn => ((hPH n hn).on HB1.out (Nat.le_refl _)).more HB1.out.size, H4.out.1, H4.out.2.1, (HB1.out.row H4.out.2.2.1 (Nat.le_refl _)).more HB1.out.size, H4.out.2.2.2⟩
    have HPT1 := hide hpt
    clear hN hPR hPH hpt H1 H2 H3 H4
    go_wp2_with fail
    refine (refmay_any wc A n c cols HL.out hn ((HB1.out.row HR.out (Nat.le_refl _)).more HB1.out.size) A' N pc l HN.out (by omega) HPT1.out.2.1 HPT1.out.2.2.1 (HT.out.le HB1.out)).mono ?_
    rintro e w2 ⟨rfl, hb⟩
    have HPT2 := hide (HPT1.out.on hb)
    obtain ⟨my, hmy⟩ : ∃ b, pr.mayP cols l = b := ⟨_, rfl⟩
    rw [hmy]
    clear hb HPT1
    cases my
    · go_wp2_with fail
      go_ret
      exact ⟨rfl, HPT2.out.1⟩
    · have HMF := hide (pr.may_fine hmy)
      clear hmy
      go_wp2_with fail
      refine (refschema_any w2 A n c cols HL.out hn HS.out ((HPT2.out.1.row HR.out (Nat.le_refl _)).more HPT2.out.1.size)).mono ?_
      rintro e w3 ⟨rfl, hb⟩
      have HPT3 := hide (HPT2.out.on hb)
      obtain ⟨sv, hsv⟩ : ∃ s, va.schemaV cols = s := ⟨_, rfl⟩
      rw [hsv]
      obtain ⟨sb, hsb⟩ : ∃ b, (sv != 0) = b := ⟨_, rfl⟩
      clear hb HPT2 hsv
      cases sb
      · obtain ⟨rv, hrv⟩ : ∃ x, va.rowV cols rr.vals = x := ⟨_, rfl⟩
        have hrw := hide (hrv ▸ refrow_any w3 A n c cols HL.out hn ((HPT3.out.1.row HR.out (Nat.le_refl _)).more HPT3.out.1.size) rr.rA rr.rn rr.rc rr.vals HPT3.out.2.2.2.1 HPT3.out.2.2.2.2.1 HPT3.out.2.2.2.2.2.2 HPT3.out.2.2.2.2.2.1 (HT.out.le HPT3.out.1))
        have HRV := hide hrv
        clear hrv
        go_wp2_with fail
        refine hrw.out.mono ?_
        rintro e w4 ⟨rfl, hb⟩
        have HPT4 := hide (HPT3.out.on hb)
        obtain ⟨rb, hrb⟩ : ∃ b, (rv != 0) = b := ⟨_, rfl⟩
        clear hb HPT3 hrw
        cases rb
        · have hlen : cols.length = rr.vals.length := row_zero (by rw [HRV.out]; simpa using hrb)
          have HFN := hide (show ∀ j n, l[j]? = some n → pr.Fine rr.rn j n from fun j n hn => by have := HMF.out.2.2 j n hn; rwa [hlen, HPT4.out.2.2.2.1] at this)
          obtain ⟨T, rfl⟩ : ∃ T, N = T + 1 := ⟨N - 1, by have := HMF.out.1; rw [HN.out] at this; omega⟩
          clear hlen HMF HRV
          have hw1 : ((T + 1 : Nat) : Int) - 1 = (T : Int) := by omega
          have hw2 : IntKind.i64.wrap (T : Int) = (T : Int) := by rw [IntKind.wrap_i64]; omega
          have hw3 : IntKind.i64.wrap ((T : Int) + 1) = (T : Int) + 1 := by rw [IntKind.wrap_i64]; omega
          go_upto_region 7 with fail
          go_cut [9] (fun s9 wx => s9 = .int .i64 (T : Int) ∧ wx = w4)
          case first =>
            go_wp2_with fail
            go_meet
            exact ⟨by first | rfl | simp, rfl⟩
          case rest =>
            obtain ⟨rfl, rfl⟩ := hcut
            have HPT := HPT4
            go_upto_region 8 with fail
            go_cut [10] (fun s10 wx => ∃ d : Bool, s10 = .bool d ∧ PT w l A' (T + 1) rr wx)
            case first =>
              · skip
                go_wp2_with (first | (at_builtin; show wpList _ _ _ ((Oper.mk (some 46) _ _ _ _ _) :: _) _ _; refine wpList_append_row _ rfl (.tmp 44) (.tmp 45) 23 rfl wc.heap.size 40 infoP Tryd.underlying23 rfl (by omega) (.slice (some ⟨wc.heap.size, 0, none⟩) 0 0) 0 [] rfl (World.ownsRow_lit _ #[] 0 (Nat.le_refl _) (by simp) rfl) wc.heap.size A' (T + 1) pc (ncs l) rfl (by rw [ncs_len, HN.out]) (HPT.out.2.1.alloc (Nat.le_refl _) _) (ncs_one l) (by simp only [maxLen]; omega) (by omega) (by simp) ?_; intro v1 w1 hown1 hg1 hat1; rw [Nat.zero_add, List.nil_append] at hown1; obtain ⟨A1, cc1, rfl, hc1, hc1'⟩ := own_form hown1; have HO1 := hide hown1; have HLV1 := hide (show Le wc w1 from ((Below.refl _ _).alloc (Nat.le_refl _) _).grown hg1 (by simp) (fun g hg => blk_ge hg (Nat.le_refl _))); clear hown1 hg1 hat1 hc1 hc1'; obtain ⟨Y, hY, hzY, hLY, hra0, hra1, hrn⟩ := lay3 w1 #[.int .i64 (T : Int)] #[.int .i64 (T : Int), .int .i64 ((T : Int) + 1)] #[.int .i64 3, .int .i64 0, .bool false, .int .i64 0, .string ⟨#[]⟩, .slice none 0 0, .slice (some ⟨w1.heap.size, 0, none⟩) 1 1, .int .i64 2, .int .i64 0, .bool false, .int .i64 0, .string ⟨#[]⟩, .slice none 0 0, .slice (some ⟨(w1.heap.size + 1), 0, none⟩) 2 2] 3 3 40; have HOY := hide (own_below HO1.out hLY); have HRN : Hid (Row Y Y.heap.size (some ⟨w1.heap.size + 1 + 1, 0, none⟩) (ncs [nx 3 (w1.heap.size) [(T : Int)], nx 2 (w1.heap.size + 1) [(T : Int), ((T : Int) + 1)]])) := hide hrn; have HRI0 : Hid (Row Y Y.heap.size (some ⟨w1.heap.size, 0, none⟩) (([(T : Int)] : List Int).map (Value.int .i64))) := hide hra0; have HRI1 : Hid (Row Y Y.heap.size (some ⟨w1.heap.size + 1, 0, none⟩) (([(T : Int), ((T : Int) + 1)] : List Int).map (Value.int .i64))) := hide hra1; have HLY := hide hLY; have HY := hide hY; have HZY := hide hzY; clear hY hLY hzY hra0 hra1 hrn) | (at_builtin; show wpList _ _ _ ((Oper.mk (some 56) _ _ _ _ _) :: _) _ _; refine wpList_append_row _ rfl (.tmp 46) (.tmp 55) 23 rfl wc.heap.size 40 infoP Tryd.underlying23 rfl (by omega) (.slice A1 (T + 1) cc1) (T + 1) (ncs l) rfl (by rw [HY.out]; exact HOY.out) Y.heap.size (some ⟨w1.heap.size + 1 + 1, 0, none⟩) 2 2 (ncs [nx 3 (w1.heap.size) [(T : Int)], nx 2 (w1.heap.size + 1) [(T : Int), ((T : Int) + 1)]]) rfl rfl (by rw [HY.out]; exact HRN.out) (ncs_one _) (by simp only [maxLen]; omega) (by omega) (by rw [HY.out]; exact Nat.le_trans HLV1.out.size HLY.out.size) ?_; intro v2 w2 hown2 hg2 hat2; rw [HY.out] at hg2; rw [← ncs_append] at hown2; obtain ⟨A2, cc2, rfl, hc2, hc2'⟩ := own_form hown2; have HO2 := hide hown2; have HG2 := hide hg2; clear hown2 hg2 hat2 hc2 hc2'))
                have hLY2 : Le wc w2 := Below.trans (HLV1.out.trans HLY.out) (below_own HG2.out (Nat.le_refl _) (Nat.le_trans HLV1.out.size HLY.out.size) (fun g h => own_ge HO1.out h (Nat.le_refl _)))
                have HP2 := hide (HPT.out.on hLY2)
                have hrn : Row w2 w2.heap.size A2 (ncs (l ++ [nx 3 (w1.heap.size) [(T : Int)], nx 2 (w1.heap.size + 1) [(T : Int), ((T : Int) + 1)]])) := Row.of_own HO2.out
                have hz2 : Y.heap.size ≤ w2.heap.size := HG2.out.size
                have hi0 : Row w2 w2.heap.size (some ⟨w1.heap.size, 0, none⟩) ([(T : Int)].map (Value.int .i64)) := (HRI0.out.keptIn HG2.out (fun e => by have h := (HO1.out.lt _ e.symm).2; omega)).more hz2
                have hi1 : Row w2 w2.heap.size (some ⟨w1.heap.size + 1, 0, none⟩) ([(T : Int), ((T : Int) + 1)].map (Value.int .i64)) := (HRI1.out.keptIn HG2.out (fun e => by have h := (HO1.out.lt _ e.symm).2; omega)).more hz2
                have hhas : ∀ n ∈ l ++ [nx 3 (w1.heap.size) [(T : Int)], nx 2 (w1.heap.size + 1) [(T : Int), ((T : Int) + 1)]], Has w2 w2.heap.size n := fun n hn => by
                  rcases List.mem_append.1 hn with hn | hn
                  · exact HP2.out.2.2.1 n hn
                  · simp only [List.mem_cons, List.not_mem_nil, or_false] at hn
                    rcases hn with rfl | rfl
                    · exact has_nx (by simp) hi0
                    · exact has_nx (by simp) hi1
                have hlen2 : (l ++ [nx 3 (w1.heap.size) [(T : Int)], nx 2 (w1.heap.size + 1) [(T : Int), ((T : Int) + 1)]]).length = T + 1 + 2 := by rw [List.length_append, HN.out]; rfl
                have HH2 := hide hhas
                have HRN2 := hide hrn
                clear hrn hhas hz2 hLY2 HOY HRN HLY HY HZY HG2 HO2 HO1 HLV1 hi0 HRI0 hi1 HRI1
                refine (refmay_any w2 A n c cols HL.out hn ((HP2.out.1.row HR.out (Nat.le_refl _)).more HP2.out.1.size) A2 (T + 1 + 2) cc2 (l ++ [nx 3 (w1.heap.size) [(T : Int)], nx 2 (w1.heap.size + 1) [(T : Int), ((T : Int) + 1)]]) hlen2 (by omega) HRN2.out HH2.out (HT.out.le HP2.out.1)).mono ?_
                rintro e w3 ⟨rfl, hb⟩
                have HP3 := hide (HP2.out.on hb)
                clear hb
                go_wp2_with fail
                go_meet
                exact ⟨_, rfl, HP3.out⟩
            case rest =>
              clear HPT HPT4
              obtain ⟨d, rfl, hpt⟩ := hcut
              have HPT := hide hpt
              clear hpt
              cases d
              · go_wp2_with fail
                go_ret
                exact ⟨rfl, HPT.out.1⟩
              · go_wp2_with fail
                obtain ⟨x, hx⟩ : ∃ x, pr.evalV l rr.vals = x := ⟨_, rfl⟩
                have HX := hide hx
                have hx3 := (turned HN.out x hx 0 0).1
                refine (eval_any wc A' (T + 1) pc l rr.rA rr.rn rr.rc rr.vals HN.out (by omega) HPT.out.2.1 HPT.out.2.2.1 HPT.out.2.2.2.1 HPT.out.2.2.2.2.1 HPT.out.2.2.2.2.2.1 HFN.out).mono ?_
                rintro e w5 ⟨rfl, hb⟩
                have HPT5 := hide (HPT.out.on hb)
                rw [hx]
                clear hb hx HPT
                have hwx : IntKind.i64.wrap (2 - x) = 2 - x := by rw [IntKind.wrap_i64]; omega
                have HPT := HPT5
                go_upto_region 12 with fail
                go_cut [12] (fun s12 wx => s12 = .int .i64 (2 - x) ∧ PT w l A' (T + 1) rr wx)
                case first =>
                  · skip
                    go_wp2_with (first | (at_builtin; show wpList _ _ _ ((Oper.mk (some 66) _ _ _ _ _) :: _) _ _; refine wpList_append_row _ rfl (.tmp 64) (.tmp 65) 23 rfl w5.heap.size 40 infoP Tryd.underlying23 rfl (by omega) (.slice (some ⟨w5.heap.size, 0, none⟩) 0 0) 0 [] rfl (World.ownsRow_lit _ #[] 0 (Nat.le_refl _) (by simp) rfl) w5.heap.size A' (T + 1) pc (ncs l) rfl (by rw [ncs_len, HN.out]) (HPT.out.2.1.alloc (Nat.le_refl _) _) (ncs_one l) (by simp only [maxLen]; omega) (by omega) (by simp) ?_; intro v1 w1 hown1 hg1 hat1; rw [Nat.zero_add, List.nil_append] at hown1; obtain ⟨A1, cc1, rfl, hc1, hc1'⟩ := own_form hown1; have HO1 := hide hown1; have HLV1 := hide (show Le w5 w1 from ((Below.refl _ _).alloc (Nat.le_refl _) _).grown hg1 (by simp) (fun g hg => blk_ge hg (Nat.le_refl _))); clear hown1 hg1 hat1 hc1 hc1'; obtain ⟨Y, hY, hzY, hLY, hra0, hrn⟩ := lay2 w1 #[.int .i64 (T : Int)] #[.int .i64 3, .int .i64 0, .bool false, .int .i64 0, .string ⟨#[]⟩, .slice none 0 0, .slice (some ⟨w1.heap.size, 0, none⟩) 1 1] 3 40; have HOY := hide (own_below HO1.out hLY); have HRN : Hid (Row Y Y.heap.size (some ⟨w1.heap.size + 1, 0, none⟩) (ncs [nx 3 (w1.heap.size) [(T : Int)]])) := hide hrn; have HRI0 : Hid (Row Y Y.heap.size (some ⟨w1.heap.size, 0, none⟩) (([(T : Int)] : List Int).map (Value.int .i64))) := hide hra0; have HLY := hide hLY; have HY := hide hY; have HZY := hide hzY; clear hY hLY hzY hra0 hrn) | (at_builtin; show wpList _ _ _ ((Oper.mk (some 71) _ _ _ _ _) :: _) _ _; refine wpList_append_row _ rfl (.tmp 66) (.tmp 70) 23 rfl w5.heap.size 40 infoP Tryd.underlying23 rfl (by omega) (.slice A1 (T + 1) cc1) (T + 1) (ncs l) rfl (by rw [HY.out]; exact HOY.out) Y.heap.size (some ⟨w1.heap.size + 1, 0, none⟩) 1 1 (ncs [nx 3 (w1.heap.size) [(T : Int)]]) rfl rfl (by rw [HY.out]; exact HRN.out) (ncs_one _) (by simp only [maxLen]; omega) (by omega) (by rw [HY.out]; exact Nat.le_trans HLV1.out.size HLY.out.size) ?_; intro v2 w2 hown2 hg2 hat2; rw [HY.out] at hg2; rw [← ncs_append] at hown2; obtain ⟨A2, cc2, rfl, hc2, hc2'⟩ := own_form hown2; have HO2 := hide hown2; have HG2 := hide hg2; clear hown2 hg2 hat2 hc2 hc2'))
                    have hLY2 : Le w5 w2 := Below.trans (HLV1.out.trans HLY.out) (below_own HG2.out (Nat.le_refl _) (Nat.le_trans HLV1.out.size HLY.out.size) (fun g h => own_ge HO1.out h (Nat.le_refl _)))
                    have HP2 := hide (HPT.out.on hLY2)
                    have hrn : Row w2 w2.heap.size A2 (ncs (l ++ [nx 3 (w1.heap.size) [(T : Int)]])) := Row.of_own HO2.out
                    have hz2 : Y.heap.size ≤ w2.heap.size := HG2.out.size
                    have hi0 : Row w2 w2.heap.size (some ⟨w1.heap.size, 0, none⟩) ([(T : Int)].map (Value.int .i64)) := (HRI0.out.keptIn HG2.out (fun e => by have h := (HO1.out.lt _ e.symm).2; omega)).more hz2
                    have hhas : ∀ n ∈ l ++ [nx 3 (w1.heap.size) [(T : Int)]], Has w2 w2.heap.size n := fun n hn => by
                      rcases List.mem_append.1 hn with hn | hn
                      · exact HP2.out.2.2.1 n hn
                      · simp only [List.mem_cons, List.not_mem_nil, or_false] at hn
                        subst hn
                        exact has_nx (by simp) hi0
                    have hlen2 : (l ++ [nx 3 (w1.heap.size) [(T : Int)]]).length = T + 1 + 1 := by rw [List.length_append, HN.out]; rfl
                    have HH2 := hide hhas
                    have HRN2 := hide hrn
                    clear hrn hhas hz2 hLY2 HOY HRN HLY HY HZY HG2 HO2 HO1 HLV1 hi0 HRI0
                    have hff := fine_more HFN.out (e := [nx 3 (w1.heap.size) [(T : Int)]]) (fun j n hn => by
                      match j, hn with
                      | 0, hn => simp at hn; subst hn; exact fine_nx (by simp) (by simp) (fun k hk => by simp only [List.mem_cons, List.not_mem_nil, or_false] at hk; rw [HN.out]; omega)
                      | j + 1, hn => simp at hn)
                    refine (eval_any w2 A2 (T + 1 + 1) cc2 (l ++ [nx 3 (w1.heap.size) [(T : Int)]]) rr.rA rr.rn rr.rc rr.vals hlen2 (by omega) HRN2.out HH2.out HP2.out.2.2.2.1 HP2.out.2.2.2.2.1 HP2.out.2.2.2.2.2.1 hff).mono ?_
                    rintro e w3 ⟨rfl, hb⟩
                    have HP3 := hide (HP2.out.on hb)
                    have hval : pr.evalV (l ++ [nx 3 (w1.heap.size) [(T : Int)]]) rr.vals = (2 - x) := (turned HN.out x HX.out _ 0).2.1
                    rw [hval]
                    clear hb hff hval
                    go_wp2_with fail
                    go_meet
                    exact ⟨rfl, HP3.out⟩
                case rest =>
                  clear HPT HPT5
                  obtain ⟨rfl, hpt⟩ := hcut
                  have HPT := hide hpt
                  clear hpt
                  go_upto_region 13 with fail
                  go_cut [13] (fun s13 wx => s13 = .int .i64 x ∧ PT w l A' (T + 1) rr wx)
                  case first =>
                    · skip
                      go_wp2_with (first | (at_builtin; show wpList _ _ _ ((Oper.mk (some 76) _ _ _ _ _) :: _) _ _; refine wpList_append_row _ rfl (.tmp 74) (.tmp 75) 23 rfl wc.heap.size 40 infoP Tryd.underlying23 rfl (by omega) (.slice (some ⟨wc.heap.size, 0, none⟩) 0 0) 0 [] rfl (World.ownsRow_lit _ #[] 0 (Nat.le_refl _) (by simp) rfl) wc.heap.size A' (T + 1) pc (ncs l) rfl (by rw [ncs_len, HN.out]) (HPT.out.2.1.alloc (Nat.le_refl _) _) (ncs_one l) (by simp only [maxLen]; omega) (by omega) (by simp) ?_; intro v1 w1 hown1 hg1 hat1; rw [Nat.zero_add, List.nil_append] at hown1; obtain ⟨A1, cc1, rfl, hc1, hc1'⟩ := own_form hown1; have HO1 := hide hown1; have HLV1 := hide (show Le wc w1 from ((Below.refl _ _).alloc (Nat.le_refl _) _).grown hg1 (by simp) (fun g hg => blk_ge hg (Nat.le_refl _))); clear hown1 hg1 hat1 hc1 hc1'; obtain ⟨Y, hY, hzY, hLY, hra0, hrn⟩ := lay2 w1 #[.int .i64 (T : Int), .int .i64 (T : Int)] #[.int .i64 1, .int .i64 0, .bool false, .int .i64 0, .string ⟨#[]⟩, .slice none 0 0, .slice (some ⟨w1.heap.size, 0, none⟩) 2 2] 3 40; have HOY := hide (own_below HO1.out hLY); have HRN : Hid (Row Y Y.heap.size (some ⟨w1.heap.size + 1, 0, none⟩) (ncs [nx 1 (w1.heap.size) [(T : Int), (T : Int)]])) := hide hrn; have HRI0 : Hid (Row Y Y.heap.size (some ⟨w1.heap.size, 0, none⟩) (([(T : Int), (T : Int)] : List Int).map (Value.int .i64))) := hide hra0; have HLY := hide hLY; have HY := hide hY; have HZY := hide hzY; clear hY hLY hzY hra0 hrn) | (at_builtin; show wpList _ _ _ ((Oper.mk (some 82) _ _ _ _ _) :: _) _ _; refine wpList_append_row _ rfl (.tmp 76) (.tmp 81) 23 rfl wc.heap.size 40 infoP Tryd.underlying23 rfl (by omega) (.slice A1 (T + 1) cc1) (T + 1) (ncs l) rfl (by rw [HY.out]; exact HOY.out) Y.heap.size (some ⟨w1.heap.size + 1, 0, none⟩) 1 1 (ncs [nx 1 (w1.heap.size) [(T : Int), (T : Int)]]) rfl rfl (by rw [HY.out]; exact HRN.out) (ncs_one _) (by simp only [maxLen]; omega) (by omega) (by rw [HY.out]; exact Nat.le_trans HLV1.out.size HLY.out.size) ?_; intro v2 w2 hown2 hg2 hat2; rw [HY.out] at hg2; rw [← ncs_append] at hown2; obtain ⟨A2, cc2, rfl, hc2, hc2'⟩ := own_form hown2; have HO2 := hide hown2; have HG2 := hide hg2; clear hown2 hg2 hat2 hc2 hc2'))
                      have hLY2 : Le wc w2 := Below.trans (HLV1.out.trans HLY.out) (below_own HG2.out (Nat.le_refl _) (Nat.le_trans HLV1.out.size HLY.out.size) (fun g h => own_ge HO1.out h (Nat.le_refl _)))
                      have HP2 := hide (HPT.out.on hLY2)
                      have hrn : Row w2 w2.heap.size A2 (ncs (l ++ [nx 1 (w1.heap.size) [(T : Int), (T : Int)]])) := Row.of_own HO2.out
                      have hz2 : Y.heap.size ≤ w2.heap.size := HG2.out.size
                      have hi0 : Row w2 w2.heap.size (some ⟨w1.heap.size, 0, none⟩) ([(T : Int), (T : Int)].map (Value.int .i64)) := (HRI0.out.keptIn HG2.out (fun e => by have h := (HO1.out.lt _ e.symm).2; omega)).more hz2
                      have hhas : ∀ n ∈ l ++ [nx 1 (w1.heap.size) [(T : Int), (T : Int)]], Has w2 w2.heap.size n := fun n hn => by
                        rcases List.mem_append.1 hn with hn | hn
                        · exact HP2.out.2.2.1 n hn
                        · simp only [List.mem_cons, List.not_mem_nil, or_false] at hn
                          subst hn
                          exact has_nx (by simp) hi0
                      have hlen2 : (l ++ [nx 1 (w1.heap.size) [(T : Int), (T : Int)]]).length = T + 1 + 1 := by rw [List.length_append, HN.out]; rfl
                      have HH2 := hide hhas
                      have HRN2 := hide hrn
                      clear hrn hhas hz2 hLY2 HOY HRN HLY HY HZY HG2 HO2 HO1 HLV1 hi0 HRI0
                      have hff := fine_more HFN.out (e := [nx 1 (w1.heap.size) [(T : Int), (T : Int)]]) (fun j n hn => by
                        match j, hn with
                        | 0, hn => simp at hn; subst hn; exact fine_nx (by simp) (by simp) (fun k hk => by simp only [List.mem_cons, List.not_mem_nil, or_false] at hk; rw [HN.out]; omega)
                        | j + 1, hn => simp at hn)
                      refine (eval_any w2 A2 (T + 1 + 1) cc2 (l ++ [nx 1 (w1.heap.size) [(T : Int), (T : Int)]]) rr.rA rr.rn rr.rc rr.vals hlen2 (by omega) HRN2.out HH2.out HP2.out.2.2.2.1 HP2.out.2.2.2.2.1 HP2.out.2.2.2.2.2.1 hff).mono ?_
                      rintro e w3 ⟨rfl, hb⟩
                      have HP3 := hide (HP2.out.on hb)
                      have hval : pr.evalV (l ++ [nx 1 (w1.heap.size) [(T : Int), (T : Int)]]) rr.vals = x := (turned HN.out x HX.out _ 0).2.2.1
                      rw [hval]
                      clear hb hff hval
                      go_wp2_with fail
                      go_meet
                      exact ⟨rfl, HP3.out⟩
                  case rest =>
                    clear HPT
                    obtain ⟨rfl, hpt⟩ := hcut
                    have HPT := hide hpt
                    clear hpt
                    go_upto_region 14 with fail
                    go_cut [14] (fun s14 wx => s14 = .int .i64 x ∧ PT w l A' (T + 1) rr wx)
                    case first =>
                      · skip
                        go_wp2_with (first | (at_builtin; show wpList _ _ _ ((Oper.mk (some 87) _ _ _ _ _) :: _) _ _; refine wpList_append_row _ rfl (.tmp 85) (.tmp 86) 23 rfl wc.heap.size 40 infoP Tryd.underlying23 rfl (by omega) (.slice (some ⟨wc.heap.size, 0, none⟩) 0 0) 0 [] rfl (World.ownsRow_lit _ #[] 0 (Nat.le_refl _) (by simp) rfl) wc.heap.size A' (T + 1) pc (ncs l) rfl (by rw [ncs_len, HN.out]) (HPT.out.2.1.alloc (Nat.le_refl _) _) (ncs_one l) (by simp only [maxLen]; omega) (by omega) (by simp) ?_; intro v1 w1 hown1 hg1 hat1; rw [Nat.zero_add, List.nil_append] at hown1; obtain ⟨A1, cc1, rfl, hc1, hc1'⟩ := own_form hown1; have HO1 := hide hown1; have HLV1 := hide (show Le wc w1 from ((Below.refl _ _).alloc (Nat.le_refl _) _).grown hg1 (by simp) (fun g hg => blk_ge hg (Nat.le_refl _))); clear hown1 hg1 hat1 hc1 hc1'; obtain ⟨Y, hY, hzY, hLY, hra0, hrn⟩ := lay2 w1 #[.int .i64 (T : Int), .int .i64 (T : Int)] #[.int .i64 2, .int .i64 0, .bool false, .int .i64 0, .string ⟨#[]⟩, .slice none 0 0, .slice (some ⟨w1.heap.size, 0, none⟩) 2 2] 3 40; have HOY := hide (own_below HO1.out hLY); have HRN : Hid (Row Y Y.heap.size (some ⟨w1.heap.size + 1, 0, none⟩) (ncs [nx 2 (w1.heap.size) [(T : Int), (T : Int)]])) := hide hrn; have HRI0 : Hid (Row Y Y.heap.size (some ⟨w1.heap.size, 0, none⟩) (([(T : Int), (T : Int)] : List Int).map (Value.int .i64))) := hide hra0; have HLY := hide hLY; have HY := hide hY; have HZY := hide hzY; clear hY hLY hzY hra0 hrn) | (at_builtin; show wpList _ _ _ ((Oper.mk (some 93) _ _ _ _ _) :: _) _ _; refine wpList_append_row _ rfl (.tmp 87) (.tmp 92) 23 rfl wc.heap.size 40 infoP Tryd.underlying23 rfl (by omega) (.slice A1 (T + 1) cc1) (T + 1) (ncs l) rfl (by rw [HY.out]; exact HOY.out) Y.heap.size (some ⟨w1.heap.size + 1, 0, none⟩) 1 1 (ncs [nx 2 (w1.heap.size) [(T : Int), (T : Int)]]) rfl rfl (by rw [HY.out]; exact HRN.out) (ncs_one _) (by simp only [maxLen]; omega) (by omega) (by rw [HY.out]; exact Nat.le_trans HLV1.out.size HLY.out.size) ?_; intro v2 w2 hown2 hg2 hat2; rw [HY.out] at hg2; rw [← ncs_append] at hown2; obtain ⟨A2, cc2, rfl, hc2, hc2'⟩ := own_form hown2; have HO2 := hide hown2; have HG2 := hide hg2; clear hown2 hg2 hat2 hc2 hc2'))
                        have hLY2 : Le wc w2 := Below.trans (HLV1.out.trans HLY.out) (below_own HG2.out (Nat.le_refl _) (Nat.le_trans HLV1.out.size HLY.out.size) (fun g h => own_ge HO1.out h (Nat.le_refl _)))
                        have HP2 := hide (HPT.out.on hLY2)
                        have hrn : Row w2 w2.heap.size A2 (ncs (l ++ [nx 2 (w1.heap.size) [(T : Int), (T : Int)]])) := Row.of_own HO2.out
                        have hz2 : Y.heap.size ≤ w2.heap.size := HG2.out.size
                        have hi0 : Row w2 w2.heap.size (some ⟨w1.heap.size, 0, none⟩) ([(T : Int), (T : Int)].map (Value.int .i64)) := (HRI0.out.keptIn HG2.out (fun e => by have h := (HO1.out.lt _ e.symm).2; omega)).more hz2
                        have hhas : ∀ n ∈ l ++ [nx 2 (w1.heap.size) [(T : Int), (T : Int)]], Has w2 w2.heap.size n := fun n hn => by
                          rcases List.mem_append.1 hn with hn | hn
                          · exact HP2.out.2.2.1 n hn
                          · simp only [List.mem_cons, List.not_mem_nil, or_false] at hn
                            subst hn
                            exact has_nx (by simp) hi0
                        have hlen2 : (l ++ [nx 2 (w1.heap.size) [(T : Int), (T : Int)]]).length = T + 1 + 1 := by rw [List.length_append, HN.out]; rfl
                        have HH2 := hide hhas
                        have HRN2 := hide hrn
                        clear hrn hhas hz2 hLY2 HOY HRN HLY HY HZY HG2 HO2 HO1 HLV1 hi0 HRI0
                        have hff := fine_more HFN.out (e := [nx 2 (w1.heap.size) [(T : Int), (T : Int)]]) (fun j n hn => by
                          match j, hn with
                          | 0, hn => simp at hn; subst hn; exact fine_nx (by simp) (by simp) (fun k hk => by simp only [List.mem_cons, List.not_mem_nil, or_false] at hk; rw [HN.out]; omega)
                          | j + 1, hn => simp at hn)
                        refine (eval_any w2 A2 (T + 1 + 1) cc2 (l ++ [nx 2 (w1.heap.size) [(T : Int), (T : Int)]]) rr.rA rr.rn rr.rc rr.vals hlen2 (by omega) HRN2.out HH2.out HP2.out.2.2.2.1 HP2.out.2.2.2.2.1 HP2.out.2.2.2.2.2.1 hff).mono ?_
                        rintro e w3 ⟨rfl, hb⟩
                        have HP3 := hide (HP2.out.on hb)
                        have hval : pr.evalV (l ++ [nx 2 (w1.heap.size) [(T : Int), (T : Int)]]) rr.vals = x := (turned HN.out x HX.out _ 0).2.2.2.1
                        rw [hval]
                        clear hb hff hval
                        go_wp2_with fail
                        go_meet
                        exact ⟨rfl, HP3.out⟩
                    case rest =>
                      clear HPT
                      obtain ⟨rfl, hpt⟩ := hcut
                      have HPT := hide hpt
                      clear hpt
                      go_upto_region 15 with fail
                      go_cut [15] (fun s15 wx => s15 = .int .i64 x ∧ PT w l A' (T + 1) rr wx)
                      case first =>
                        · skip
                          go_wp2_with (first | (at_builtin; show wpList _ _ _ ((Oper.mk (some 98) _ _ _ _ _) :: _) _ _; refine wpList_append_row _ rfl (.tmp 96) (.tmp 97) 23 rfl wc.heap.size 40 infoP Tryd.underlying23 rfl (by omega) (.slice (some ⟨wc.heap.size, 0, none⟩) 0 0) 0 [] rfl (World.ownsRow_lit _ #[] 0 (Nat.le_refl _) (by simp) rfl) wc.heap.size A' (T + 1) pc (ncs l) rfl (by rw [ncs_len, HN.out]) (HPT.out.2.1.alloc (Nat.le_refl _) _) (ncs_one l) (by simp only [maxLen]; omega) (by omega) (by simp) ?_; intro v1 w1 hown1 hg1 hat1; rw [Nat.zero_add, List.nil_append] at hown1; obtain ⟨A1, cc1, rfl, hc1, hc1'⟩ := own_form hown1; have HO1 := hide hown1; have HLV1 := hide (show Le wc w1 from ((Below.refl _ _).alloc (Nat.le_refl _) _).grown hg1 (by simp) (fun g hg => blk_ge hg (Nat.le_refl _))); clear hown1 hg1 hat1 hc1 hc1'; obtain ⟨Y, hY, hzY, hLY, hra0, hrn⟩ := lay2 w1 #[.int .i64 (T : Int), .int .i64 ((T : Int) + 1)] #[.int .i64 9, .int .i64 0, .bool false, .int .i64 0, .string ⟨#[]⟩, .slice none 0 0, .slice none 0 0, .int .i64 1, .int .i64 0, .bool false, .int .i64 0, .string ⟨#[]⟩, .slice none 0 0, .slice (some ⟨w1.heap.size, 0, none⟩) 2 2] 3 40; have HOY := hide (own_below HO1.out hLY); have HRN : Hid (Row Y Y.heap.size (some ⟨w1.heap.size + 1, 0, none⟩) (ncs [ndTrue, nx 1 (w1.heap.size) [(T : Int), ((T : Int) + 1)]])) := hide hrn; have HRI0 : Hid (Row Y Y.heap.size (some ⟨w1.heap.size, 0, none⟩) (([(T : Int), ((T : Int) + 1)] : List Int).map (Value.int .i64))) := hide hra0; have HLY := hide hLY; have HY := hide hY; have HZY := hide hzY; clear hY hLY hzY hra0 hrn) | (at_builtin; show wpList _ _ _ ((Oper.mk (some 106) _ _ _ _ _) :: _) _ _; refine wpList_append_row _ rfl (.tmp 98) (.tmp 105) 23 rfl wc.heap.size 40 infoP Tryd.underlying23 rfl (by omega) (.slice A1 (T + 1) cc1) (T + 1) (ncs l) rfl (by rw [HY.out]; exact HOY.out) Y.heap.size (some ⟨w1.heap.size + 1, 0, none⟩) 2 2 (ncs [ndTrue, nx 1 (w1.heap.size) [(T : Int), ((T : Int) + 1)]]) rfl rfl (by rw [HY.out]; exact HRN.out) (ncs_one _) (by simp only [maxLen]; omega) (by omega) (by rw [HY.out]; exact Nat.le_trans HLV1.out.size HLY.out.size) ?_; intro v2 w2 hown2 hg2 hat2; rw [HY.out] at hg2; rw [← ncs_append] at hown2; obtain ⟨A2, cc2, rfl, hc2, hc2'⟩ := own_form hown2; have HO2 := hide hown2; have HG2 := hide hg2; clear hown2 hg2 hat2 hc2 hc2'))
                          have hLY2 : Le wc w2 := Below.trans (HLV1.out.trans HLY.out) (below_own HG2.out (Nat.le_refl _) (Nat.le_trans HLV1.out.size HLY.out.size) (fun g h => own_ge HO1.out h (Nat.le_refl _)))
                          have HP2 := hide (HPT.out.on hLY2)
                          have hrn : Row w2 w2.heap.size A2 (ncs (l ++ [ndTrue, nx 1 (w1.heap.size) [(T : Int), ((T : Int) + 1)]])) := Row.of_own HO2.out
                          have hz2 : Y.heap.size ≤ w2.heap.size := HG2.out.size
                          have hi0 : Row w2 w2.heap.size (some ⟨w1.heap.size, 0, none⟩) ([(T : Int), ((T : Int) + 1)].map (Value.int .i64)) := (HRI0.out.keptIn HG2.out (fun e => by have h := (HO1.out.lt _ e.symm).2; omega)).more hz2
                          have hhas : ∀ n ∈ l ++ [ndTrue, nx 1 (w1.heap.size) [(T : Int), ((T : Int) + 1)]], Has w2 w2.heap.size n := fun n hn => by
                            rcases List.mem_append.1 hn with hn | hn
                            · exact HP2.out.2.2.1 n hn
                            · simp only [List.mem_cons, List.not_mem_nil, or_false] at hn
                              rcases hn with rfl | rfl
                              · exact has_true
                              · exact has_nx (by simp) hi0
                          have hlen2 : (l ++ [ndTrue, nx 1 (w1.heap.size) [(T : Int), ((T : Int) + 1)]]).length = T + 1 + 2 := by rw [List.length_append, HN.out]; rfl
                          have HH2 := hide hhas
                          have HRN2 := hide hrn
                          clear hrn hhas hz2 hLY2 HOY HRN HLY HY HZY HG2 HO2 HO1 HLV1 hi0 HRI0
                          have hff := fine_more HFN.out (e := [ndTrue, nx 1 (w1.heap.size) [(T : Int), ((T : Int) + 1)]]) (fun j n hn => by
                            match j, hn with
                            | 0, hn => simp at hn; subst hn; exact fine_true
                            | 1, hn => simp at hn; subst hn; exact fine_nx (by simp) (by simp) (fun k hk => by simp only [List.mem_cons, List.not_mem_nil, or_false] at hk; rw [HN.out]; omega)
                            | j + 2, hn => simp at hn)
                          refine (eval_any w2 A2 (T + 1 + 2) cc2 (l ++ [ndTrue, nx 1 (w1.heap.size) [(T : Int), ((T : Int) + 1)]]) rr.rA rr.rn rr.rc rr.vals hlen2 (by omega) HRN2.out HH2.out HP2.out.2.2.2.1 HP2.out.2.2.2.2.1 HP2.out.2.2.2.2.2.1 hff).mono ?_
                          rintro e w3 ⟨rfl, hb⟩
                          have HP3 := hide (HP2.out.on hb)
                          have hval : pr.evalV (l ++ [ndTrue, nx 1 (w1.heap.size) [(T : Int), ((T : Int) + 1)]]) rr.vals = x := (turned HN.out x HX.out _ 0).2.2.2.2.1
                          rw [hval]
                          clear hb hff hval
                          go_wp2_with fail
                          go_meet
                          exact ⟨rfl, HP3.out⟩
                      case rest =>
                        clear HPT
                        obtain ⟨rfl, hpt⟩ := hcut
                        have HPT := hide hpt
                        clear hpt
                        go_upto_region 16 with fail
                        go_cut [16] (fun s16 wx => s16 = .int .i64 (max x (2 - x)) ∧ PT w l A' (T + 1) rr wx)
                        case first =>
                          · skip
                            go_wp2_with (first | (at_builtin; show wpList _ _ _ ((Oper.mk (some 111) _ _ _ _ _) :: _) _ _; refine wpList_append_row _ rfl (.tmp 109) (.tmp 110) 23 rfl wc.heap.size 40 infoP Tryd.underlying23 rfl (by omega) (.slice (some ⟨wc.heap.size, 0, none⟩) 0 0) 0 [] rfl (World.ownsRow_lit _ #[] 0 (Nat.le_refl _) (by simp) rfl) wc.heap.size A' (T + 1) pc (ncs l) rfl (by rw [ncs_len, HN.out]) (HPT.out.2.1.alloc (Nat.le_refl _) _) (ncs_one l) (by simp only [maxLen]; omega) (by omega) (by simp) ?_; intro v1 w1 hown1 hg1 hat1; rw [Nat.zero_add, List.nil_append] at hown1; obtain ⟨A1, cc1, rfl, hc1, hc1'⟩ := own_form hown1; have HO1 := hide hown1; have HLV1 := hide (show Le wc w1 from ((Below.refl _ _).alloc (Nat.le_refl _) _).grown hg1 (by simp) (fun g hg => blk_ge hg (Nat.le_refl _))); clear hown1 hg1 hat1 hc1 hc1'; obtain ⟨Y, hY, hzY, hLY, hra0, hra1, hrn⟩ := lay3 w1 #[.int .i64 (T : Int)] #[.int .i64 (T : Int), .int .i64 ((T : Int) + 1)] #[.int .i64 3, .int .i64 0, .bool false, .int .i64 0, .string ⟨#[]⟩, .slice none 0 0, .slice (some ⟨w1.heap.size, 0, none⟩) 1 1, .int .i64 2, .int .i64 0, .bool false, .int .i64 0, .string ⟨#[]⟩, .slice none 0 0, .slice (some ⟨(w1.heap.size + 1), 0, none⟩) 2 2] 3 3 40; have HOY := hide (own_below HO1.out hLY); have HRN : Hid (Row Y Y.heap.size (some ⟨w1.heap.size + 1 + 1, 0, none⟩) (ncs [nx 3 (w1.heap.size) [(T : Int)], nx 2 (w1.heap.size + 1) [(T : Int), ((T : Int) + 1)]])) := hide hrn; have HRI0 : Hid (Row Y Y.heap.size (some ⟨w1.heap.size, 0, none⟩) (([(T : Int)] : List Int).map (Value.int .i64))) := hide hra0; have HRI1 : Hid (Row Y Y.heap.size (some ⟨w1.heap.size + 1, 0, none⟩) (([(T : Int), ((T : Int) + 1)] : List Int).map (Value.int .i64))) := hide hra1; have HLY := hide hLY; have HY := hide hY; have HZY := hide hzY; clear hY hLY hzY hra0 hra1 hrn) | (at_builtin; show wpList _ _ _ ((Oper.mk (some 121) _ _ _ _ _) :: _) _ _; refine wpList_append_row _ rfl (.tmp 111) (.tmp 120) 23 rfl wc.heap.size 40 infoP Tryd.underlying23 rfl (by omega) (.slice A1 (T + 1) cc1) (T + 1) (ncs l) rfl (by rw [HY.out]; exact HOY.out) Y.heap.size (some ⟨w1.heap.size + 1 + 1, 0, none⟩) 2 2 (ncs [nx 3 (w1.heap.size) [(T : Int)], nx 2 (w1.heap.size + 1) [(T : Int), ((T : Int) + 1)]]) rfl rfl (by rw [HY.out]; exact HRN.out) (ncs_one _) (by simp only [maxLen]; omega) (by omega) (by rw [HY.out]; exact Nat.le_trans HLV1.out.size HLY.out.size) ?_; intro v2 w2 hown2 hg2 hat2; rw [HY.out] at hg2; rw [← ncs_append] at hown2; obtain ⟨A2, cc2, rfl, hc2, hc2'⟩ := own_form hown2; have HO2 := hide hown2; have HG2 := hide hg2; clear hown2 hg2 hat2 hc2 hc2'))
                            have hLY2 : Le wc w2 := Below.trans (HLV1.out.trans HLY.out) (below_own HG2.out (Nat.le_refl _) (Nat.le_trans HLV1.out.size HLY.out.size) (fun g h => own_ge HO1.out h (Nat.le_refl _)))
                            have HP2 := hide (HPT.out.on hLY2)
                            have hrn : Row w2 w2.heap.size A2 (ncs (l ++ [nx 3 (w1.heap.size) [(T : Int)], nx 2 (w1.heap.size + 1) [(T : Int), ((T : Int) + 1)]])) := Row.of_own HO2.out
                            have hz2 : Y.heap.size ≤ w2.heap.size := HG2.out.size
                            have hi0 : Row w2 w2.heap.size (some ⟨w1.heap.size, 0, none⟩) ([(T : Int)].map (Value.int .i64)) := (HRI0.out.keptIn HG2.out (fun e => by have h := (HO1.out.lt _ e.symm).2; omega)).more hz2
                            have hi1 : Row w2 w2.heap.size (some ⟨w1.heap.size + 1, 0, none⟩) ([(T : Int), ((T : Int) + 1)].map (Value.int .i64)) := (HRI1.out.keptIn HG2.out (fun e => by have h := (HO1.out.lt _ e.symm).2; omega)).more hz2
                            have hhas : ∀ n ∈ l ++ [nx 3 (w1.heap.size) [(T : Int)], nx 2 (w1.heap.size + 1) [(T : Int), ((T : Int) + 1)]], Has w2 w2.heap.size n := fun n hn => by
                              rcases List.mem_append.1 hn with hn | hn
                              · exact HP2.out.2.2.1 n hn
                              · simp only [List.mem_cons, List.not_mem_nil, or_false] at hn
                                rcases hn with rfl | rfl
                                · exact has_nx (by simp) hi0
                                · exact has_nx (by simp) hi1
                            have hlen2 : (l ++ [nx 3 (w1.heap.size) [(T : Int)], nx 2 (w1.heap.size + 1) [(T : Int), ((T : Int) + 1)]]).length = T + 1 + 2 := by rw [List.length_append, HN.out]; rfl
                            have HH2 := hide hhas
                            have HRN2 := hide hrn
                            clear hrn hhas hz2 hLY2 HOY HRN HLY HY HZY HG2 HO2 HO1 HLV1 hi0 HRI0 hi1 HRI1
                            have hff := fine_more HFN.out (e := [nx 3 (w1.heap.size) [(T : Int)], nx 2 (w1.heap.size + 1) [(T : Int), ((T : Int) + 1)]]) (fun j n hn => by
                              match j, hn with
                              | 0, hn => simp at hn; subst hn; exact fine_nx (by simp) (by simp) (fun k hk => by simp only [List.mem_cons, List.not_mem_nil, or_false] at hk; rw [HN.out]; omega)
                              | 1, hn => simp at hn; subst hn; exact fine_nx (by simp) (by simp) (fun k hk => by simp only [List.mem_cons, List.not_mem_nil, or_false] at hk; rw [HN.out]; omega)
                              | j + 2, hn => simp at hn)
                            refine (eval_any w2 A2 (T + 1 + 2) cc2 (l ++ [nx 3 (w1.heap.size) [(T : Int)], nx 2 (w1.heap.size + 1) [(T : Int), ((T : Int) + 1)]]) rr.rA rr.rn rr.rc rr.vals hlen2 (by omega) HRN2.out HH2.out HP2.out.2.2.2.1 HP2.out.2.2.2.2.1 HP2.out.2.2.2.2.2.1 hff).mono ?_
                            rintro e w3 ⟨rfl, hb⟩
                            have HP3 := hide (HP2.out.on hb)
                            have hval : pr.evalV (l ++ [nx 3 (w1.heap.size) [(T : Int)], nx 2 (w1.heap.size + 1) [(T : Int), ((T : Int) + 1)]]) rr.vals = (max x (2 - x)) := (turned HN.out x HX.out _ _).2.2.2.2.2
                            rw [hval]
                            clear hb hff hval
                            go_wp2_with fail
                            go_meet
                            exact ⟨rfl, HP3.out⟩
                        case rest =>
                          clear HPT
                          obtain ⟨rfl, hpt⟩ := hcut
                          have HPT := hide hpt
                          clear hpt
                          go_wp2_with fail
                          go_ret
                          exact ⟨rfl, HPT.out.1⟩
        · go_wp2_with fail
          go_ret
          exact ⟨rfl, HPT4.out.1⟩
      · go_wp2_with fail
        go_ret
        exact ⟨rfl, HPT3.out.1⟩
#print axioms predturned_walk
end Go.Proofs.YtklgmojojgoaeaaDoor
