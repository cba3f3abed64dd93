/-
  The law on what may come out of predicates, walked.
-/
import Derived.Test.YtklgmojojgoaeaaDoorOuE
import Derived.Test.YtklgmojojgoaeaaDoorOuG
import Derived.Test.YtklgmojojgoaeaaDoorOuM
import Derived.Test.YtklgmojojgoaeaaDoorPrG
namespace Go.Proofs.YtklgmojojgoaeaaDoor
open Go.RowKit
set_option linter.unusedVariables false

theorem infoSt : (Tryd.prog.info? 47).map (fun i => (i.zero.map (·.cells.size), i.size, decide (i.bytes ≤ 200))) = some (some 10, 10, true) := by kernel_rfl
theorem scs_len (l : List st.St) : (scs l).length = l.length * 10 := by
  induction l with
  | nil => rfl
  | cons a l ih => rw [scs_cons]; simp only [List.length_cons]; rw [ih]; omega
theorem one_st (s : st.St) : ∀ u ∈ (st.cells s).toList, u.oneCell' = true := fun u hu => (Array.all_eq_true_iff_forall_mem.1 (st_one s)) u (by simpa using hu)
theorem sok_of {k : Int} {s : st.St} (h : st.mayS k s = true) : SOk s := by
  unfold st.mayS at h
  simp only [Bool.and_eq_true, decide_eq_true_eq, beq_iff_eq] at h
  refine ⟨h.1.1, fun hc => ?_⟩
  have e : decide (s.c = 0) = false := decide_eq_false (by omega)
  rw [e] at h
  exact ⟨h.2.2.2.1, h.2.2.2.2.1⟩
theorem eq3_run (a b c : Bool) (W : World) : Sem.run Tryd.prog (Op.equalIn 10000 48 (Value.agg #[Value.bool a, Value.bool b, Value.bool c]) (Value.agg #[Value.bool a, Value.bool b, Value.bool c])) W = Result.ok true W := by
  cases a <;> cases b <;> cases c <;> kernel_rfl
theorem schema_few {l : List va.Col} (h : va.schemaV l = 0) : l.length ≤ 6 := by
  unfold va.schemaV at h
  split at h
  · rename_i h1; exact h1.2.1
  · cases h

set_option maxRecDepth 100000 in
set_option maxHeartbeats 20000000 in
theorem predknows_walk (w : World) (A : Option Addr) (n c : Nat) (cols : List va.Col) (hl : cols.length = n) (hn : n ≤ 9223372036854775807) (hs : ∀ c ∈ cols, c.name.size ≤ 9223372036854775807) (hr : Row w w.heap.size A (ccs cols))
    (A' : Option Addr) (n' c' : Nat) (l : List pr.Nd) (hl' : l.length = n') (hnc' : n' ≤ c') (hr' : Row w w.heap.size A' (ncs l)) (hh : ∀ n ∈ l, Has w w.heap.size n)
    (A2 : Option Addr) (n2 c2 : Nat) (S : List st.St) (hl2 : S.length = n2) (hn2 : n2 ≤ 9223372036854775807) (hr2 : Row w w.heap.size A2 (scs S)) (hh2 : ∀ s ∈ S, s.mn.s.size ≤ 9223372036854775807 ∧ s.mx.s.size ≤ 9223372036854775807) (hT : Tabs8 w) :
    Calls Tryd.prog 5 #[.slice A n c, .slice A' n' c', .slice A2 n2 c2] w fun e w' => e = .returned (.bool true) ∧ Below w.heap.size w w' := by
  obtain ⟨zst, bst, hist, hzst, hbst⟩ : ∃ z b, (Tryd.prog.info? 47).map (fun i => (i.zero, i.size, i.bytes)) = some (some z, 10, b) ∧ z.cells.size = 10 ∧ b ≤ 200 := by
    have h1 := infoSt
    cases hi : Tryd.prog.info? 47 with
    | none => rw [hi] at h1; cases h1
    | some i =>
      rw [hi] at h1
      simp only [Option.map_some, Option.some.injEq, Prod.mk.injEq, decide_eq_true_eq] at h1
      obtain ⟨z, hz, hzs⟩ : ∃ z, i.zero = some z ∧ z.cells.size = 10 := by
        cases hz : i.zero with
        | none => rw [hz] at h1; exact absurd h1.1 (by simp)
        | some z => rw [hz] at h1; exact ⟨z, rfl, by simpa using h1.1⟩
      exact ⟨z, i.bytes, by simp [hz, h1.2.1], hzs, h1.2.2⟩
  have HIST := hide hist
  have HL := hide hl
  have HS := hide hs
  have HR := hide hr
  have HL2 := hide hl2
  have HR2 := hide hr2
  have HH2 := hide hh2
  have HT := hide hT
  have hfw := hide (fun (w1 : World) (hb : Below w.heap.size w w1) => few_any w1 A' n' c' l hl' hnc' ((Le.row hb hr' (Nat.le_refl _)).more hb.size) (fun n hn => ((hh n hn).on hb (Nat.le_refl _)).more hb.size))
  clear hl hs hr hl' hr' hh hl2 hr2 hh2 hT hist
  go_enter Tryd.func5, Tryd.ntmps5
  go_wp2_with fail
  refine (shown_any w).mono ?_
  rintro e w1 ⟨rfl, hb1⟩
  have HB1 := hide (show Le w w1 from hb1)
  have hf1 := hfw.out w1 hb1
  clear hb1 hfw
  have HFW := hide hf1
  clear hf1
  go_wp2_with fail
  refine HFW.out.mono ?_
  rintro e w' ⟨⟨p, pc, l', rfl, hpl, hp45, hppc, hpr, hph⟩, rfl⟩
  have HPL := hide hpl
  have HPR := hide hpr
  have HPH := hide hph
  clear hpl hpr hph HFW
  go_wp2_with fail
  refine (refmay_any w1 A n c cols HL.out hn ((HB1.out.row HR.out (Nat.le_refl _)).more HB1.out.size) A' p pc l' HPL.out (by omega) HPR.out HPH.out (HT.out.le HB1.out)).mono ?_
  rintro e w2 ⟨rfl, hb⟩
  have HB2 := hide (show Le w w2 from HB1.out.trans hb)
  have HPR2 := hide ((Le.row hb HPR.out (Nat.le_refl _)).more hb.size)
  have HPH2 := hide (fun n hn => ((HPH.out n hn).on hb (Nat.le_refl _)).more hb.size)
  obtain ⟨my, hmy⟩ : ∃ b, pr.mayP cols l' = b := ⟨_, rfl⟩
  rw [hmy]
  clear hb HPR HPH
  cases my
  · go_wp2_with fail
    go_ret
    exact ⟨rfl, HB2.out⟩
  · have HMF := hide (pr.may_fine hmy)
    clear hmy
    go_wp2_with fail
    refine (refschema_any w2 A n c cols HL.out hn HS.out ((HB2.out.row HR.out (Nat.le_refl _)).more HB2.out.size)).mono ?_
    rintro e w3 ⟨rfl, hb⟩
    have HB3 := hide (show Le w w3 from HB2.out.trans hb)
    have HPR3 := hide ((Le.row hb HPR2.out (Nat.le_refl _)).more hb.size)
    have HPH3 := hide (fun n hn => ((HPH2.out n hn).on hb (Nat.le_refl _)).more hb.size)
    obtain ⟨sv, hsv⟩ : ∃ s, va.schemaV cols = s := ⟨_, rfl⟩
    rw [hsv]
    obtain ⟨sb, hsb⟩ : ∃ b, (sv != 0) = b := ⟨_, rfl⟩
    clear hb HPR2 HPH2
    cases sb
    · have hsv0 : sv = 0 := by simpa using hsb
      have hn6 : n ≤ 6 := by
        have := schema_few (by rw [hsv, hsv0])
        rwa [HL.out] at this
      obtain ⟨lt, hlt⟩ : ∃ b, decide ((n2 : Int) < (n : Int)) = b := ⟨_, rfl⟩
      cases lt
      · have hnn : n ≤ n2 := by
          have := of_decide_eq_false hlt
          omega
        clear hsv
        go_upto_region 7 with fail
        obtain ⟨W6, hW6⟩ : ∃ W, w3.alloc (.cells #[] 47) = W := ⟨_, rfl⟩
        have HOW := hide (show W6.ownsRow w3.heap.size 47 10 (.slice (some ⟨w3.heap.size, 0, none⟩) 0 0) 0 (scs []) by
          rw [← hW6]
          exact World.ownsRow_lit (base := w3.heap.size) (e := 47) (size := 10) w3 #[] 0 (by simp) (by simp) rfl)
        have HL6 := hide (show Le w3 W6 by rw [← hW6]; exact (Below.refl _ _).alloc (Nat.le_refl _) _)
        rw [hW6]
        clear hW6 hlt
        go_wp2_with fail
        go_loopw [9, 10] (fun s i wr => ∃ (j cs : Nat) (As : Option Addr), i = .int .i64 j ∧ j ≤ n ∧ s = .slice As j cs ∧ Hid (∀ s ∈ S.take j, SOk s) ∧ Hid (wr.ownsRow w3.heap.size 47 10 (.slice As j cs) j (scs (S.take j))) ∧ Hid (Le w3 wr)) (fun _ i _ => n - (intOf i).toNat)
        case atStart => exact ⟨0, 0, _, rfl, Nat.zero_le _, rfl, hide (by intro s hs; simp at hs), HOW, HL6⟩
        case round =>
          obtain ⟨j, cs, As, rfl, hj, rfl, HSO, HO, HLr⟩ := hrel
          have HBr := hide (show Le w wr from HB3.out.trans HLr.out)
          by_cases hjn : j < n
          · obtain ⟨cl, hcl⟩ : ∃ cl, cols[j]? = some cl := ⟨_, List.getElem?_eq_getElem (by rw [HL.out]; exact hjn)⟩
            obtain ⟨bC, oC, rfl, hbC, -, rk⟩ := row_at2 HR.out hcl
            obtain ⟨s, hs⟩ : ∃ s, S[j]? = some s := ⟨_, List.getElem?_eq_getElem (by rw [HL2.out]; omega)⟩
            obtain ⟨bS, oS, rfl, hbS, -, rs⟩ := row_st HR2.out hs
            have HHS := hide (HH2.out s (List.mem_of_getElem? hs))
            have hnj : (j : Int) < n := by omega
            have hnj2 : (j : Int) < n2 := by omega
            have hj0 : (0 : Int) ≤ (j : Int) := by omega
            obtain ⟨V, hV⟩ : ∃ V, wr.drew = V := ⟨_, rfl⟩
            have HLV := hide (show Le w3 V by rw [← hV]; exact HLr.out.drew)
            have HBV := hide (show Le w V from HB3.out.trans HLV.out)
            have HOV := hide (show V.ownsRow w3.heap.size 47 10 (.slice As j cs) j (scs (S.take j)) by rw [← hV]; exact own_below HO.out (Below.refl _ _).drew)
            have HV := hide hV
            have HTK := hide (va.take_step hs)
            obtain ⟨ok, hok⟩ : ∃ b, st.mayS cl.kind s = b := ⟨_, rfl⟩
            have hmy := hide (fun (W : World) (hb : Le w W) => hok ▸ refstmay_any W cl.kind s HHS.out.1 HHS.out.2 (HT.out.le hb))
            have HSK := hide (show ok = true → SOk s from fun h => sok_of (hok.trans h))
            have f0 : ∀ W, Le V W → W.cell? ⟨bC, oC + j * 2 + 1, none⟩ = some (.int .i64 cl.kind) := fun W h => ((HBV.out.trans h).cell (p := ⟨bC, oC + j * 2 + 1, none⟩) hbC).trans rk
            have hcw : ∀ (i : Nat) u, (st.cells s)[i]? = some u → ∀ W, Le V W → W.cell? ⟨bS, oS + j * 10 + i, none⟩ = some u := fun i u hu W h => ((HBV.out.trans h).cell (p := ⟨bS, oS + j * 10 + i, none⟩) hbS).trans (rs i u hu)
            have e0 := hcw 0 _ rfl
            have e1 := hcw 1 _ rfl
            have e2 := hcw 2 _ rfl
            have e3 := hcw 3 _ rfl
            have e4 := hcw 4 _ rfl
            have e5 := hcw 5 _ rfl
            have e6 := hcw 6 _ rfl
            have e7 := hcw 7 _ rfl
            have e8 := hcw 8 _ rfl
            have e9 := hcw 9 _ rfl
            simp only [Nat.add_zero] at e0
            have HCW := hide (fun (i : Nat) u (hu : (st.cells s)[i]? = some u) (W : World) (h : Le w W) => (h.cell (p := ⟨bS, oS + j * 10 + i, none⟩) hbS).trans (rs i u hu))
            clear hcw rs rk hcl hs hV hok
            obtain ⟨cN, hn, ⟨mn, mi, ms⟩, ⟨xn, xi, xs⟩, su, ov⟩ := s
            simp only [st.cells] at e0 e1 e2 e3 e4 e5 e6 e7 e8 e9 hmy
            go_upto_region 10 with fail
            refine region_pi [(0, true), (1, true), (2, true), (3, true), (4, true), (5, true), (6, true), (7, true), (8, true), (9, false), (10, true)] (by kernel_rfl) (by kernel_rfl) ?_
            simp only [opsPi, List.filterMap_cons, List.filterMap_nil, List.getElem?_toArray, List.getElem?_cons_zero, List.getElem?_cons_succ, Option.map_some]
            rw [HV.out]
            repeat (first | (refine pi_take (v := _) rfl (fun W hW => by go_simp <;> exact rfl) ?_; simp only [Act.put, List.setIfInBounds_toArray, List.set_cons_zero, List.set_cons_succ]) | (refine pi_skip rfl ?_; simp only [Act.put, List.setIfInBounds_toArray, List.set_cons_zero, List.set_cons_succ]))
            refine pi_run ?_
            go_wp2_with fail
            refine (hmy.out V HBV.out).mono ?_
            rintro e V1 ⟨rfl, hb⟩
            have HL1 := hide (show Le w3 V1 from HLV.out.trans hb)
            have HO1 := hide (own_below HOV.out hb)
            go_wp2_with fail
            refine ⟨hb, ?_⟩
            clear hb e0 e1 e2 e3 e4 e5 e6 e7 e8 e9 f0
            repeat (first | (refine pi_take (v := _) rfl (fun W hW => by go_simp <;> exact rfl) ?_; simp only [Act.put, List.setIfInBounds_toArray, List.set_cons_zero, List.set_cons_succ]) | (refine pi_skip rfl ?_; simp only [Act.put, List.setIfInBounds_toArray, List.set_cons_zero, List.set_cons_succ]))
            refine pi_done ?_
            cases ok
            · go_wp2_with fail
              go_ret
              exact ⟨rfl, (HB3.out.trans HL1.out)⟩
            · have hb1 := HB3.out.trans HL1.out
              have e0 := HCW.out 0 _ rfl V1 hb1
              have e1 := HCW.out 1 _ rfl V1 hb1
              have e2 := HCW.out 2 _ rfl V1 hb1
              have e3 := HCW.out 3 _ rfl V1 hb1
              have e4 := HCW.out 4 _ rfl V1 hb1
              have e5 := HCW.out 5 _ rfl V1 hb1
              have e6 := HCW.out 6 _ rfl V1 hb1
              have e7 := HCW.out 7 _ rfl V1 hb1
              have e8 := HCW.out 8 _ rfl V1 hb1
              have e9 := HCW.out 9 _ rfl V1 hb1
              rw [Nat.add_zero] at e0
              have hz1 := HL1.out.size
              clear hb1
              have HS1 := hide (show ∀ s ∈ S.take (j + 1), SOk s by
                rw [HTK.out]
                intro s hs
                rcases List.mem_append.1 hs with hs | hs
                · exact HSO.out s hs
                · rw [List.mem_singleton.1 hs]; exact HSK.out rfl)
              go_wp2_with (at_builtin; refine wpList_append_row _ rfl (.tmp 54) (.tmp 59) 42 rfl w3.heap.size 47 HIST.out Tryd.underlying42 hzst (by omega) (.slice As j cs) j _ rfl (HO1.out.alloc _) _ (some ⟨V1.heap.size, 0, none⟩) 1 1 (st.cells ⟨cN, hn, ⟨mn, mi, ms⟩, ⟨xn, xi, xs⟩, su, ov⟩).toList rfl rfl (row_new V1 (st.cells ⟨cN, hn, ⟨mn, mi, ms⟩, ⟨xn, xi, xs⟩, su, ov⟩) _ (0, 0)) (one_st _) (by simp only [maxLen]; omega) (Nat.le_trans (Nat.mul_le_mul (show j + 1 ≤ 7 by omega) hbst) (by omega)) (by simp; omega) ?_; intro v' w' hown' hg hat; obtain ⟨A1, c1, rfl, -, -⟩ := own_form hown'; have HO' := hide hown'; have HG := hide hg; clear hown' hg hat)
              have HBK := hide (show Below w3.heap.size V1 w' from Below.trans ((Below.refl _ _).alloc hz1 _) (below_own HG.out (Nat.le_refl _) (by simp; omega) (fun g h => own_ge HO1.out h (Nat.le_refl _))))
              have HB' := hide (show Le w3 w' from Below.trans HL1.out HBK.out)
              exact ⟨⟨_, _, _, ⟨j + 1, rfl, by omega, c1, A1, rfl, HS1, hide (by rw [HTK.out, scs_append]; exact HO'.out), HB'⟩, rfl, rfl, by go_num⟩, by simp [intOf]; omega⟩
          · obtain rfl : j = n := by omega
            obtain ⟨T, hT⟩ : ∃ T, S.take j = T := ⟨_, rfl⟩
            have hTl : T.length = j := by rw [← hT, List.length_take, HL2.out]; omega
            rw [hT] at HSO HO
            have HTL := hide hTl
            have HFI := hide (show ∀ i n, l'[i]? = some n → pr.Fine j i n from fun i n h => by have := HMF.out.2.2 i n h; rwa [HL.out] at this)
            have hp1 : 1 ≤ p ∧ p ≤ 1000 := by have := HMF.out.1; rw [HPL.out] at this; omega
            have HRO := hide (Row.of_own HO.out)
            obtain ⟨R, hR⟩ : ∃ R, ou.outV (fun n => ou.knownV n (T.getD n.col.toNat nst)) l' = R := ⟨_, rfl⟩
            have hro := hide (fun (W : World) (hb : Le wr W) => hR ▸ refoutcomes_any W A' p pc l' As j cs T HPL.out hp1 (((HLr.out.trans hb).row HPR3.out (Nat.le_refl _)).more (HLr.out.trans hb).size) (fun n hn => ((HPH3.out n hn).on (HLr.out.trans hb) (Nat.le_refl _)).more (HLr.out.trans hb).size) HTL.out (by omega) ((hb.row HRO.out (Nat.le_refl _)).more hb.size) HFI.out)
            have hpo := hide (fun (W : World) (hb : Le wr W) => hR ▸ outcomes_any W A' p pc l' As j cs T HPL.out hp1 (((HLr.out.trans hb).row HPR3.out (Nat.le_refl _)).more (HLr.out.trans hb).size) (fun n hn => ((HPH3.out n hn).on (HLr.out.trans hb) (Nat.le_refl _)).more (HLr.out.trans hb).size) HTL.out (by omega) ((hb.row HRO.out (Nat.le_refl _)).more hb.size) HSO.out HFI.out)
            have hpm := hide (fun (W : World) (hb : Le wr W) => hR ▸ match_any W A' p pc l' As j cs T HPL.out hp1 (((HLr.out.trans hb).row HPR3.out (Nat.le_refl _)).more (HLr.out.trans hb).size) (fun n hn => ((HPH3.out n hn).on (HLr.out.trans hb) (Nat.le_refl _)).more (HLr.out.trans hb).size) HTL.out (by omega) ((hb.row HRO.out (Nat.le_refl _)).more hb.size) HSO.out HFI.out)
            clear hT hTl hR
            obtain ⟨ra, rb, rc⟩ := R
            simp only [ou.T3.cells] at hro hpo
            go_wp2_with fail
            refine (hro.out wr (Le.refl _)).mono ?_
            rintro e V1 ⟨rfl, hb⟩
            obtain ⟨V2, hV2, b2, hb2⟩ := t3_box2 V1 ⟨ra, rb, rc⟩ 48
            simp only [ou.T3.cells, ou.zero] at hV2 b2
            have HV2 := hide hV2
            have HL2' := hide (show Le wr V2 from Le.trans hb hb2)
            have B12 := hide b2
            clear hb hV2 b2 hb2
            go_upto_region 15 with (refine wpList_store_row rfl 48 _ _ rfl V1.heap.size #[.bool ra, .bool rb, .bool rc] rfl rfl 48 _ (box_new _ _ _) (by kernel_rfl) rfl (t3_one ⟨ra, rb, rc⟩) ?_)
            rw [HV2.out]
            obtain ⟨V, hV⟩ : ∃ V, V2.drew = V := ⟨_, rfl⟩
            have HLV := hide (show Le wr V by rw [← hV]; exact HL2'.out.drew)
            have BV := hide (show Box V V1.heap.size _ _ by rw [← hV]; exact B12.out.drew)
            have HV := hide hV
            clear hV
            have q0 := BV.out.later 0 (.bool ra) rfl
            have q1 := BV.out.later 1 (.bool rb) rfl
            have q2 := BV.out.later 2 (.bool rc) rfl
            refine region_pi [(0, true), (1, true), (2, true), (3, true), (5, true), (4, false), (6, true), (7, true), (8, true), (9, true), (10, true), (12, true), (13, true), (11, false), (14, true), (15, true), (16, true)] (by kernel_rfl) (by kernel_rfl) ?_
            simp only [opsPi, List.filterMap_cons, List.filterMap_nil, List.getElem?_toArray, List.getElem?_cons_zero, List.getElem?_cons_succ, Option.map_some]
            rw [HV.out]
            repeat (first | (refine pi_take (v := _) rfl (fun W hW => by go_simp <;> exact rfl) ?_; simp only [Act.put, List.setIfInBounds_toArray, List.set_cons_zero, List.set_cons_succ]) | (refine pi_skip rfl ?_; simp only [Act.put, List.setIfInBounds_toArray, List.set_cons_zero, List.set_cons_succ]))
            refine pi_run ?_
            go_wp2_with fail
            refine (hpo.out V HLV.out).mono ?_
            rintro e V3 ⟨rfl, hb⟩
            have HL3 := hide (show Le wr V3 from HLV.out.trans hb)
            have B3 := hide (BV.out.below hb BV.out.lt)
            go_wp2_with fail
            refine ⟨hb, ?_⟩
            clear hb q0 q1 q2
            have q2 := B3.out.later 2 (.bool rc) rfl
            refine pi_take (v := .bool true) rfl (fun W' hW' => ?_) ?_
            · clear q2
              go_simp
              rw [eq3_run]
              rfl
            simp only [Act.put, List.setIfInBounds_toArray, List.set_cons_zero, List.set_cons_succ]
            repeat (first | (refine pi_take (v := _) rfl (fun W hW => by go_simp <;> exact rfl) ?_; simp only [Act.put, List.setIfInBounds_toArray, List.set_cons_zero, List.set_cons_succ]) | (refine pi_skip rfl ?_; simp only [Act.put, List.setIfInBounds_toArray, List.set_cons_zero, List.set_cons_succ]))
            refine pi_run ?_
            go_wp2_with fail
            refine (hpm.out V3 HL3.out).mono ?_
            rintro e V4 ⟨rfl, hb⟩
            have HL4 := hide (show Le wr V4 from HL3.out.trans hb)
            go_wp2_with fail
            refine ⟨hb, ?_⟩
            clear hb q2
            refine pi_take (v := .bool true) rfl (fun W' hW' => ?_) ?_
            · go_simp
            simp only [Act.put, List.setIfInBounds_toArray, List.set_cons_zero, List.set_cons_succ]
            repeat (first | (refine pi_take (v := _) rfl (fun W hW => by go_simp <;> exact rfl) ?_; simp only [Act.put, List.setIfInBounds_toArray, List.set_cons_zero, List.set_cons_succ]) | (refine pi_skip rfl ?_; simp only [Act.put, List.setIfInBounds_toArray, List.set_cons_zero, List.set_cons_succ]))
            refine pi_done ?_
            go_wp2_with fail
            go_ret
            exact ⟨rfl, HBr.out.trans HL4.out⟩
      · have hlt2 : n2 < n := by
          have := of_decide_eq_true hlt
          omega
        go_wp2_with fail
        go_ret
        exact ⟨rfl, HB3.out⟩
    · go_wp2_with fail
      go_ret
      exact ⟨rfl, HB3.out⟩
#print axioms predknows_walk
end Go.Proofs.YtklgmojojgoaeaaDoor
