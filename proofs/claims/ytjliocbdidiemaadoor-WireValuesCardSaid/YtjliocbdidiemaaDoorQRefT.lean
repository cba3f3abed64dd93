/-
  Fields, walked: bytes that are taken as fields, by the document.
-/
import Derived.Test.YtjliocbdidiemaaDoorQI
namespace Go.Proofs.YtjliocbdidiemaaDoor
open Go.RowKit
set_option linter.unusedVariables false

theorem one_badkey {l r : List Nat} {k : Nat} (h : var.vtake l = some (k, r)) (hb : ¬ (1 ≤ k / 8 ∧ k / 8 ≤ 100) ∨ (k % 8 ≠ 0 ∧ k % 8 ≠ 2)) : wi.one l = none := by
  cases h2 : var.vtake r with
  | none => exact wi.one_none2 h h2
  | some q => exact wi.one_bad h (r := r) (n := q.1) (s := q.2) h2 (hb.imp id fun x => ⟨x.1, fun y => x.2 y.1⟩)

theorem own_lit2 (w : World) (o : Obj) (t : TypeId) (size : Nat) : ((w.alloc o).alloc (.cells #[] t)).ownsRow (w.alloc o).heap.size t size (.slice (some ⟨w.heap.size + 1, 0, none⟩) 0 0) 0 [] := by
  have h : ((w.alloc o).alloc (.cells #[] t)).ownsRow (w.alloc o).heap.size t size (.slice (some ⟨(w.alloc o).heap.size, 0, none⟩) 0 0) 0 [] := World.ownsRow_lit _ #[] 0 (Nat.le_refl _) (by simp) (by simp)
  have e : (w.alloc o).heap.size = w.heap.size + 1 := by simp
  rw [e] at h ⊢
  exact h
set_option maxRecDepth 100000 in
set_option maxHeartbeats 8000000 in
theorem refwtake_any (w : World) (A : Option Addr) (n c : Nat) (l : List Nat) (hl : l.length = n) (hn : n ≤ 1000000) (hnc : n ≤ c) (hc : c ≤ maxLen) (h8 : ∀ x ∈ l, x < 256) (hr : Row w w.heap.size A (u8s l)) :
    Calls Tryd.prog 7 #[.slice A n c] w (TakeR l w) := by
  have HL := hide hl
  have H8 := hide h8
  clear hl h8
  go_enter Tryd.func7, Tryd.ntmps7
  go_wp2_with (at_builtin; (refine wpList_append_row _ rfl (.tmp 13) (.tmp 14) 22 rfl (w.alloc (.cells #[] 54)).heap.size 5 info8 Tryd.underlying22 rfl (by omega) _ 0 [] rfl (own_lit2 _ _ _ _) w.heap.size A n c (u8s l) rfl (by rw [u8s_len, HL.out, Nat.mul_one]) ((hr.alloc (Nat.le_refl _) _).alloc (((Below.refl w.heap.size w).alloc (Nat.le_refl _) _).size) _) u8s_one (by simp only [maxLen]; omega) (by omega) (by simp) ?_; intro v1 w1 hown1 hg1 hat1; rw [Nat.zero_add, List.nil_append] at hown1; obtain ⟨A1, c1, rfl, hc1, hc1'⟩ := own_form hown1))
  obtain ⟨W0, hW0⟩ : ∃ W0, w.alloc (.cells #[] 54) = W0 := ⟨_, rfl⟩
  rw [hW0] at hg1 hat1
  have hs1 : W0.ownsRow w.heap.size 54 4 (.slice (some ⟨w.heap.size, 0, none⟩) 0 0) 0 (fcs []) := by rw [← hW0]; exact World.ownsRow_lit _ #[] 0 (Nat.le_refl _) (by simp) rfl
  have hs2 : Below w.heap.size w W0 := by rw [← hW0]; exact (Below.refl _ _).alloc (Nat.le_refl _) _
  have hz0 : W0.heap.size = w.heap.size + 1 := by rw [← hW0]; simp
  have hl1 : Le W0 w1 := ((Below.refl _ _).alloc (Nat.le_refl _) _).grown hg1 (by simp) (fun g hg => blk_ge hg (by omega))
  have hs3 := own_below hs1 hl1
  have hs4 : Below w.heap.size w w1 := hs2.trans (hl1.mono (by omega))
  have hrow1 := Row.of_own hown1
  have hfr1 : u8s l ≠ [] → ∀ a, A1 = some a → w.heap.size + 1 ≤ a.block := fun h a ha => by have := own_fresh hown1 HL.out h a ha; simp at this; omega
  clear hW0 hown1 hg1 hat1 hs1 hs2 hl1
  go_loopw [4, 5] (fun v b wr => ∃ (R c2 K c3 : Nat) (A2 A3 : Option Addr) (r : List Nat) (o : List FV), b = .slice A2 R c2 ∧ v = .slice A3 K c3 ∧ Hid (r.length = R) ∧ R + K ≤ n ∧ R ≤ c2 ∧ Hid (c2 ≤ maxLen) ∧ Hid (∀ x ∈ r, x < 256) ∧ Hid (Row wr wr.heap.size A2 (u8s r)) ∧ Hid (wi.take l = (wi.take r).map (o.map (·.1) ++ ·)) ∧
    Hid (o.length = K) ∧ Hid (wr.ownsRow w.heap.size 54 4 (.slice A3 K c3) K (fcs o)) ∧ Hid (Sep wr (.slice A3 K c3) o) ∧ Hid (∀ p ∈ o, ∀ x ∈ p.1.b, x < 256) ∧ Hid (u8s r ≠ [] → ∀ a, A2 = some a → (Value.slice A3 K c3).ownBlock ≠ some a.block) ∧ Hid (Below w.heap.size w wr)) (fun _ b _ => slen b)
  case atStart =>
    refine ⟨n, c1, 0, 0, A1, some ⟨w.heap.size, 0, none⟩, l, [], rfl, rfl, HL, by omega, hc1, hide hc1', H8, hide hrow1, hide ?_, hide rfl, hide hs3, hide (Sep.nil _ _), hide (fun p hp => by cases hp), hide (fun h a ha he => by
      have h1 := hfr1 h a ha
      have h2 := (hs3.lt _ he).2
      injection he with he
      simp at he
      omega), hide hs4⟩
    cases wi.take l <;> rfl
  case round =>
    obtain ⟨R, c2, K, c3, A2, A3, r, o, rfl, rfl, HRL, hRK, hRc, HC2, HR8, HR, HT, HOL, HO, HS, HO8, HX, HB⟩ := hrel
    have hz := HB.out.size
    clear hs3 hs4 hrow1 hfr1 hz0
    by_cases hR0 : R = 0
    · subst hR0
      have HD := hide (show wi.take l = some (o.map (·.1)) by
        have h := HT.out
        rw [List.length_eq_zero_iff.1 HRL.out, wi.take_nil] at h
        simpa using h)
      go_wp2_with fail
      go_ret2
      exact .inr ⟨o, A3, K, c3, HD.out, HOL.out, by rw [HL.out]; omega, rfl, Row.of_own HO.out, HS.out.held, HO8.out, HB.out⟩
    · have hRp : 0 < R := by omega
      have hRi : (0 : Int) < (R : Int) := by omega
      have hrne : r ≠ [] := fun h => by have := HRL.out; rw [h] at this; simp at this; omega
      have HNE := hide hrne
      clear hrne
      go_wp2_with fail
      refine (reftake_any wr A2 R c2 r HRL.out (by omega) hRc HC2.out HR8.out HR.out).mono ?_
      rintro e w2 ⟨v2, rfl, hown2, hb2⟩
      cases hv1 : var.vtake r with
      | none =>
        obtain ⟨e1, e2, e3⟩ := tk_none hv1
        have HD := hide (show wi.take l = none by rw [HT.out, wi.take_none HNE.out (wi.one_none1 hv1)]; rfl)
        have HBF := hide (show Le w w2 from HB.out.trans (hb2.mono hz))
        rw [e1, e3]
        obtain ⟨A9, c9, rfl, -, -⟩ := own_form hown2
        clear hown2 hb2 hv1 e1 e2 e3
        go_wp2_with fail
        go_ret2
        exact .inl ⟨HD.out, rfl, HBF.out⟩
      | some p1 =>
        obtain ⟨k, m⟩ := p1
        obtain ⟨e1, e2, e3⟩ := tk_some hv1
        rw [e2] at hown2
        rw [e1, e3]
        obtain ⟨R1, hR1⟩ : ∃ R1, m.length = R1 := ⟨_, rfl⟩
        rw [hR1] at hown2
        obtain ⟨A5, c5, rfl, hc5, hc5'⟩ := own_form hown2
        have HV1 := hide hv1
        have HR1 := hide hR1
        have HM8 := hide (vtake8 HR8.out hv1)
        have hk64 : k < 18446744073709551616 := vtake_s64 HR8.out hv1
        have hlt1 : R1 ≤ R := by
          obtain ⟨a, h1, -⟩ := var.vtake_suffix hv1
          have h2 := congrArg List.length h1
          rw [HRL.out, List.length_append, hR1] at h2
          omega
        have HROW5 := hide (Row.of_own hown2)
        have HL2 := hide (show Le wr w2 from hb2)
        clear hown2 hb2 hv1 e1 e2 e3 hR1
        by_cases hbad : (k < 8 ∨ 802 < k) ∨ (k % 8 ≠ 0 ∧ k % 8 ≠ 2)
        · have HD := hide (show wi.take l = none by rw [HT.out, wi.take_none HNE.out (one_badkey HV1.out (by omega))]; rfl)
          have HBF := hide (show Le w w2 from HB.out.trans (HL2.out.mono hz))
          by_cases h8k : k < 8
          · have d1 : decide ((k : Int) < 8) = true := decide_eq_true (by omega)
            go_wp2_with fail
            go_ret2
            exact .inl ⟨HD.out, rfl, HBF.out⟩
          · have d1 : decide ((k : Int) < 8) = false := decide_eq_false (by omega)
            by_cases h802 : 802 < k
            · have d2 : decide ((802 : Int) < (k : Int)) = true := decide_eq_true (by omega)
              go_wp2_with fail
              go_ret2
              exact .inl ⟨HD.out, rfl, HBF.out⟩
            · have d2 : decide ((802 : Int) < (k : Int)) = false := decide_eq_false (by omega)
              have d3 : ((k : Int) % 8 != 0) = true := by simp; omega
              have d4 : ((k : Int) % 8 != 2) = true := by simp; omega
              go_wp2_with fail
              go_ret2
              exact .inl ⟨HD.out, rfl, HBF.out⟩
        · have d1 : decide ((k : Int) < 8) = false := decide_eq_false (by omega)
          have d2 : decide ((802 : Int) < (k : Int)) = false := decide_eq_false (by omega)
          have htag : 1 ≤ k / 8 ∧ k / 8 ≤ 100 := by omega
          obtain ⟨T, hT⟩ : ∃ T, k / 8 = T := ⟨_, rfl⟩
          have HTT := hide hT
          have hT8 : (k : Int) / 8 = (T : Int) := by omega
          have hTw : IntKind.i64.wrap (T : Int) = (T : Int) := IntWalk.i64_in _ (by omega)
          clear hT
          have hcases : k % 8 = 0 ∨ k % 8 = 2 := by omega
          rcases hcases with h08 | h28
          · have d3 : ((k : Int) % 8 != 0) = false := by simp; omega
            have d5 : ((k : Int) % 8 == 2) = false := by simp; omega
            have H08 := hide h08
            have HTAG := hide htag
            clear h08 hbad htag
            go_wp2_with fail
            refine (reftake_any w2 A5 R1 c5 m HR1.out (by omega) hc5 hc5' HM8.out HROW5.out).mono ?_
            rintro e w3 ⟨v3, rfl, hown3, hb3⟩
            cases hv2 : var.vtake m with
            | none =>
              obtain ⟨e1, e2, e3⟩ := tk_none hv2
              have HD := hide (show wi.take l = none by rw [HT.out, wi.take_none HNE.out (wi.one_none2 HV1.out hv2)]; rfl)
              have HBF := hide (show Le w w3 from HB.out.trans ((HL2.out.trans hb3).mono hz))
              rw [e1, e3]
              obtain ⟨A9, c9, rfl, -, -⟩ := own_form hown3
              clear hown3 hb3 hv2 e1 e2 e3
              go_wp2_with fail
              go_ret2
              exact .inl ⟨HD.out, rfl, HBF.out⟩
            | some p2 =>
              obtain ⟨u, s⟩ := p2
              obtain ⟨e1, e2, e3⟩ := tk_some hv2
              rw [e2] at hown3
              rw [e1, e3]
              obtain ⟨R2, hR2⟩ : ∃ R2, s.length = R2 := ⟨_, rfl⟩
              rw [hR2] at hown3
              obtain ⟨A6, c6, rfl, hc6, hc6'⟩ := own_form hown3
              have HV2 := hide hv2
              have HR2 := hide hR2
              have HS8 := hide (vtake8 HM8.out hv2)
              have hu64 : u < 18446744073709551616 := vtake_s64 HM8.out hv2
              have hlt2 : R2 < R1 := by
                obtain ⟨a, h1, h2⟩ := var.vtake_suffix hv2
                have h3 := congrArg List.length h1
                rw [HR1.out, List.length_append, hR2] at h3
                omega
              have HO3 := hide hown3
              have HL3 := hide (show Le w2 w3 from hb3)
              clear hown3 hb3 hv2 e1 e2 e3 hR2
              have HX1 := hide (wi.one_num HV1.out HV2.out HTAG.out H08.out)
              rw [HTT.out] at HX1
              have HL23 := hide (show Le wr w3 from HL2.out.trans HL3.out)
              have HOW := hide (own_below HO.out HL23.out)
              have HSW := hide (HS.out.le HL23.out)
              have hz3 := HL23.out.size
              have hz23 := HL3.out.size
              have HD := hide (show wi.take l = (wi.take s).map ((o.map (·.1) ++ [⟨(T : Int), false, u, []⟩]) ++ ·) by
                rw [HT.out, wi.take_some HX1.out]
                cases wi.take s <;> simp)
              obtain ⟨V, hV⟩ : ∃ V, w3.alloc (.cells #[.int .i64 (T : Int), .bool false, .int .u64 (u : Int), .slice none 0 0] 54) = V := ⟨_, rfl⟩
              have HV := hide hV
              have hzV : V.heap.size = w3.heap.size + 1 := by rw [← hV]; simp
              have HLV := hide (show Le w3 V by rw [← hV]; exact (Below.refl _ _).alloc (Nat.le_refl _) _)
              have HOV := hide (own_below HOW.out HLV.out)
              have HSV := hide (HSW.out.le HLV.out)
              have hrow := hide (row_cells4 V (.int .i64 (T : Int)) (.bool false) (.int .u64 (u : Int)) (.slice none 0 0) 54)
              rw [hzV] at hrow
              clear hV
              go_wp2_with (at_builtin; rw [HV.out]; refine wpList_append_row _ rfl (.tmp 78) (.tmp 80) 28 rfl w.heap.size 54 infoRF Tryd.underlying28 rfl (by omega) (.slice A3 K c3) K _ rfl (HOV.out.alloc _) _ (some ⟨w3.heap.size + 1, 0, none⟩) 1 1 _ rfl rfl hrow.out (by intro z hz; simp at hz; rcases hz with rfl | rfl | rfl | rfl <;> rfl) (by simp only [maxLen]; omega) (by omega) (by simp; omega) ?_; intro v' w' hown' hg hat; obtain ⟨A', c', rfl, -, -⟩ := own_form hown'; have HO' := hide hown'; have HG := hide hg; have HAT := hide hat; clear hown' hg hat)
              have hsnew : Sep (V.alloc (.cells #[.int .i64 (T : Int), .bool false, .int .u64 (u : Int), .slice none 0 0] 54)) (.slice A3 K c3) [(⟨(T : Int), false, u, []⟩, none, 0)] := Sep.one (by simp) (by unfold maxLen; simp) Row.none_ (fun hne => absurd rfl hne)
              have HS' := hide (((HSV.out.le ((Below.refl _ _).alloc (Nat.le_refl _) _)).append hsnew).grown HG.out HAT.out)
              have HRR := hide (Row.of_own HO3.out)
              have hfr := own_fresh HO3.out HR2.out
              have HRR' := hide (((HRR.out.le HLV.out).le ((Below.refl V.heap.size V).alloc (Nat.le_refl _) _)).grown_ne HG.out (fun hne a ha he => by
                have h3 := hfr hne a ha
                have h4 := (HO.out.lt _ he).2
                have h5 := HL2.out.size
                omega))
              have HX' : Hid (u8s s ≠ [] → ∀ a, A6 = some a → (Value.slice A' (K + 1) c').ownBlock ≠ some a.block) := fun hne a ha he => by
                have h3 := hfr hne a ha
                have h5 := HL2.out.size
                obtain ⟨b6, o6, hA6, hb6, -⟩ := HRR.out hne
                rcases HAT.out with h | h
                · rw [h] at he
                  have h4 := (HO.out.lt _ he).2
                  omega
                · rw [h] at he
                  rw [hA6] at ha
                  injection ha with ha
                  subst ha
                  injection he with he
                  simp at he
                  omega
              have HB' := hide (show Below w.heap.size w w' from ((HB.out.trans ((HL23.out.trans HLV.out).mono hz)).alloc (by omega) _).trans (below_own HG.out (Nat.le_refl _) (by simp; omega) (fun g h => own_ge HOV.out h (Nat.le_refl _))))
              refine ⟨⟨R2, c6, K + 1, c', A6, A', s, o ++ [(⟨(T : Int), false, u, []⟩, none, 0)], rfl, rfl, HR2, by omega, hc6, hide hc6', HS8, HRR', hide ?_, hide (by simp [HOL.out]), hide ?_, HS', hide ?_, HX', HB'⟩, by simp only [slen]; omega⟩
              · rw [List.map_append]; exact HD.out
              · rw [fcs_append]; simp only [fcs, List.flatMap_cons, List.flatMap_nil, cellsF, List.append_nil, List.length_nil]; exact HO'.out
              · intro p hp
                rcases List.mem_append.1 hp with hp | hp
                · exact HO8.out p hp
                · rw [List.mem_singleton.1 hp]; simp
          · have d3 : ((k : Int) % 8 != 0) = true := by simp; omega
            have d4 : ((k : Int) % 8 != 2) = false := by simp; omega
            have d5 : ((k : Int) % 8 == 2) = true := by simp; omega
            have H08 := hide h28
            have HTAG := hide htag
            clear h28 hbad htag
            go_wp2_with fail
            refine (reftake_any w2 A5 R1 c5 m HR1.out (by omega) hc5 hc5' HM8.out HROW5.out).mono ?_
            rintro e w3 ⟨v3, rfl, hown3, hb3⟩
            cases hv2 : var.vtake m with
            | none =>
              obtain ⟨e1, e2, e3⟩ := tk_none hv2
              have HD := hide (show wi.take l = none by rw [HT.out, wi.take_none HNE.out (wi.one_none2 HV1.out hv2)]; rfl)
              have HBF := hide (show Le w w3 from HB.out.trans ((HL2.out.trans hb3).mono hz))
              rw [e1, e3]
              obtain ⟨A9, c9, rfl, -, -⟩ := own_form hown3
              clear hown3 hb3 hv2 e1 e2 e3
              go_wp2_with fail
              go_ret2
              exact .inl ⟨HD.out, rfl, HBF.out⟩
            | some p2 =>
              obtain ⟨u, s⟩ := p2
              obtain ⟨e1, e2, e3⟩ := tk_some hv2
              rw [e2] at hown3
              rw [e1, e3]
              obtain ⟨R2, hR2⟩ : ∃ R2, s.length = R2 := ⟨_, rfl⟩
              rw [hR2] at hown3
              obtain ⟨A6, c6, rfl, hc6, hc6'⟩ := own_form hown3
              have HV2 := hide hv2
              have HR2 := hide hR2
              have HS8 := hide (vtake8 HM8.out hv2)
              have hu64 : u < 18446744073709551616 := vtake_s64 HM8.out hv2
              have hlt2 : R2 < R1 := by
                obtain ⟨a, h1, h2⟩ := var.vtake_suffix hv2
                have h3 := congrArg List.length h1
                rw [HR1.out, List.length_append, hR2] at h3
                omega
              have HO3 := hide hown3
              have HL3 := hide (show Le w2 w3 from hb3)
              clear hown3 hb3 hv2 e1 e2 e3 hR2
              have HUW : IntKind.u64.wrap (R2 : Int) = (R2 : Int) := by rw [IntKind.wrap_u64]; omega
              by_cases hu : R2 < u
              · have HD := hide (show wi.take l = none by rw [HT.out, wi.take_none HNE.out (wi.one_bad HV1.out HV2.out (.inr ⟨by have := H08.out; omega, fun h => by have := HR2.out; omega⟩))]; rfl)
                have HBF := hide (show Le w w3 from HB.out.trans ((HL2.out.trans HL3.out).mono hz))
                have du : decide ((R2 : Int) < (u : Int)) = true := decide_eq_true (by omega)
                go_wp2_with fail
                go_ret2
                exact .inl ⟨HD.out, rfl, HBF.out.alloc (HBF.out.size) _⟩
              have du : decide ((R2 : Int) < (u : Int)) = false := decide_eq_false (by omega)
              have hule : u ≤ R2 := by omega
              have HX1 := hide (wi.one_bytes HV1.out HV2.out HTAG.out H08.out (by rw [HR2.out]; exact hule))
              rw [HTT.out] at HX1
              have huc6 : u ≤ c6 := by omega
              have hfr := own_fresh HO3.out HR2.out
              have HFR := hide hfr
              obtain ⟨st, hst⟩ : ∃ st, s.take u = st := ⟨_, rfl⟩
              have HSTL := hide (show st.length = u by rw [← hst, List.length_take, HR2.out]; omega)
              have hrt := (Row.of_own HO3.out).take u
              rw [u8s_take, hst] at hrt
              have HRT := hide hrt
              have HST := hide hst
              clear hfr hst hrt
              obtain ⟨X, hX⟩ : ∃ X, w3.alloc (.cells #[.int .i64 (T : Int), .bool true, .int .u64 0, .slice none 0 0] 54) = X := ⟨_, rfl⟩
              have HBX := hide (show Box X w3.heap.size #[.int .i64 (T : Int), .bool true, .int .u64 0, .slice none 0 0] 54 by rw [← hX]; exact box_new _ _ _)
              have HLX := hide (show Le w3 X by rw [← hX]; exact (Below.refl _ _).alloc (Nat.le_refl _) _)
              have hzX : X.heap.size = w3.heap.size + 1 := by rw [← hX]; simp
              have HXX := hide hX
              have HLIT := hide (show (X.alloc (.cells #[] 5)).ownsRow X.heap.size 5 1 (.slice (some ⟨w3.heap.size + 1, 0, none⟩) 0 0) 0 [] by rw [← hX]; exact own_lit2 _ _ _ _)
              clear hX
              have HL23 := hide (show Le wr w3 from HL2.out.trans HL3.out)
              have hz3 := HL23.out.size
              have hz23 := HL3.out.size
              rw [HST.out] at HX1
              obtain ⟨sd, hsd⟩ : ∃ sd, s.drop u = sd := ⟨_, rfl⟩
              rw [hsd] at HX1
              have HSD := hide hsd
              have HSDL := hide (show sd.length = R2 - u by rw [← hsd, List.length_drop, HR2.out])
              have HSD8 := hide (show ∀ x ∈ sd, x < 256 by rw [← hsd]; exact drop8 HS8.out u)
              have HST8 := hide (show ∀ x ∈ st, x < 256 by rw [← HST.out]; exact take8 HS8.out u)
              have HD := hide (show wi.take l = (wi.take sd).map ((o.map (·.1) ++ [⟨(T : Int), true, 0, st⟩]) ++ ·) by
                rw [HT.out, wi.take_some HX1.out]
                cases wi.take sd <;> simp)
              clear hsd
              rcases Nat.lt_or_ge u c6 with hlt | hge
              · have hne : ¬ (u = c6) := by omega
                go_wp2_with (first
                  | (at_builtin; rw [HXX.out]; (refine wpList_append_row _ rfl (.tmp 67) (.tmp 70) 22 rfl X.heap.size 5 info8 Tryd.underlying22 rfl (by omega) _ 0 [] rfl HLIT.out w3.heap.size A6 u c6 (u8s st) rfl (by rw [u8s_len, HSTL.out, Nat.mul_one]) ((HRT.out.below HLX.out (Nat.le_refl _)).alloc (by omega) _) u8s_one (by simp only [maxLen]; omega) (by omega) (by simp) ?_; intro v4 w4 hown4 hg4 hat4; rw [Nat.zero_add, List.nil_append] at hown4; obtain ⟨A4, c4, rfl, hc4, hc4'⟩ := own_form hown4; have HO4 := hide hown4; have HL4 := hide (show Le X w4 from ((Below.refl _ _).alloc (Nat.le_refl _) _).grown hg4 (by simp) (fun g hg => own_ge HLIT.out hg (Nat.le_refl _))); have hbx := HBX.out.below HL4.out HBX.out.lt; have b0 := hbx.cell 0 (.int .i64 (T : Int)) rfl; have b1 := hbx.cell 1 (.bool true) rfl; have b2 := hbx.cell 2 (.int .u64 0) rfl; have b3 := hbx.cell 3 (.slice none 0 0) rfl; have z3 := hbx.frozen 3; have HBX4 := hide hbx; clear hown4 hg4 hat4 hbx))
                  | (at_builtin; (obtain ⟨Y, hY⟩ : ∃ Y, w4.setCell ⟨w3.heap.size, 3, none⟩ (.slice A4 u c4) = Y := ⟨_, rfl⟩; rw [hY]; have HY := hide hY; have HLY := hide (show Le w3 Y by rw [← hY]; exact (show Below w3.heap.size w3 w4 from HLX.out.trans HL4.out).setCell (Nat.le_refl _) _); have hzY : Y.heap.size = w4.heap.size := (by rw [← hY]; simp); have HOY := hide (own_below HO.out (HL23.out.trans HLY.out)); have HNY := hide (show Y.ownsRow X.heap.size 5 1 (.slice A4 u c4) u (u8s st) by rw [← hY]; exact own_other HO4.out (show w3.heap.size < X.heap.size by omega) _); have hrow := hide (row_cells4 Y (.int .i64 (T : Int)) (.bool true) (.int .u64 0) (.slice A4 u c4) 54); rw [hzY] at hrow; clear hY; (refine wpList_append_row _ rfl (.tmp 78) (.tmp 80) 28 rfl w.heap.size 54 infoRF Tryd.underlying28 rfl (by omega) (.slice A3 K c3) K _ rfl (HOY.out.alloc _) _ (some ⟨w4.heap.size, 0, none⟩) 1 1 _ rfl rfl hrow.out (by intro z hz; simp at hz; rcases hz with rfl | rfl | rfl | rfl <;> rfl) (by simp only [maxLen]; omega) (by omega) (by have h1 := HLX.out.size; have h2 := HL4.out.size; simp; omega) ?_; intro v' w' hown' hg hat; obtain ⟨A', c', rfl, -, -⟩ := own_form hown'; have HO' := hide hown'; have HG := hide hg; have HAT := hide hat; clear hown' hg hat))))
                have hsY := HLY.out.size
                have hfrN := own_fresh HNY.out HSTL.out
                have hsnew : Sep (Y.alloc (.cells #[.int .i64 (T : Int), .bool true, .int .u64 0, .slice A4 u c4] 54)) (.slice A3 K c3) [(⟨(T : Int), true, 0, st⟩, A4, c4)] := Sep.one (by simp only; rw [HSTL.out]; exact hc4) hc4' ((Row.of_own HNY.out).le ((Below.refl _ _).alloc (Nat.le_refl _) _)) (fun hne a ha he => by
                  have h3 := hfrN hne a ha
                  have h4 := (HO.out.lt _ he).2
                  omega)
                have HSY := hide (HS.out.le (HL23.out.trans HLY.out))
                have HS' := hide (((HSY.out.le ((Below.refl _ _).alloc (Nat.le_refl _) _)).append hsnew).grown HG.out HAT.out)
                have HRR := hide (show Row w3 w3.heap.size (A6.map (·.add u)) (u8s sd) by have h := (Row.of_own HO3.out).drop u (A' := (A6.map (·.add u))) (fun _ => rfl); rw [u8s_drop, HSD.out] at h; exact h)
                have hfrX : u8s sd ≠ [] → ∀ a, (A6.map (·.add u)) = some a → w2.heap.size ≤ a.block := by rw [← HSD.out]; exact own_fresh_drop HO3.out HR2.out
                have HRR' := hide (((HRR.out.le HLY.out).le ((Below.refl Y.heap.size Y).alloc (Nat.le_refl _) _)).grown_ne HG.out (fun hne a ha he => by
                  have h3 := hfrX hne a ha
                  have h4 := (HO.out.lt _ he).2
                  have h5 := HL2.out.size
                  omega))
                have HX' : Hid (u8s sd ≠ [] → ∀ a, (A6.map (·.add u)) = some a → (Value.slice A' (K + 1) c').ownBlock ≠ some a.block) := fun hne a ha he => by
                  have h3 := hfrX hne a ha
                  have h5 := HL2.out.size
                  obtain ⟨b6, o6, hA6, hb6, -⟩ := HRR.out hne
                  rcases HAT.out with h | h
                  · rw [h] at he
                    have h4 := (HO.out.lt _ he).2
                    omega
                  · rw [h] at he
                    rw [hA6] at ha
                    injection ha with ha
                    subst ha
                    injection he with he
                    simp at he
                    omega
                have HB' := hide (show Below w.heap.size w w' from ((HB.out.trans ((HL23.out.trans HLY.out).mono hz)).alloc (by omega) _).trans (below_own HG.out (Nat.le_refl _) (by simp; omega) (fun g h => own_ge HOY.out h (Nat.le_refl _))))
                refine ⟨⟨R2 - u, (c6 - u), K + 1, c', (A6.map (·.add u)), A', sd, o ++ [(⟨(T : Int), true, 0, st⟩, A4, c4)], rfl, rfl, HSDL, by omega, by omega, hide (by have := hc6'; unfold maxLen at this ⊢; omega), HSD8, HRR', hide ?_, hide (by simp [HOL.out]), hide ?_, HS', hide ?_, HX', HB'⟩, by simp only [slen]; omega⟩
                · rw [List.map_append]; exact HD.out
                · rw [fcs_append]; simp only [fcs, List.flatMap_cons, List.flatMap_nil, cellsF, List.append_nil, HSTL.out]; exact HO'.out
                · intro p hp
                  rcases List.mem_append.1 hp with hp | hp
                  · exact HO8.out p hp
                  · rw [List.mem_singleton.1 hp]; exact HST8.out
              · obtain rfl : u = c6 := by omega
                go_wp2_with (first
                  | (at_builtin; rw [HXX.out]; (refine wpList_append_row _ rfl (.tmp 67) (.tmp 70) 22 rfl X.heap.size 5 info8 Tryd.underlying22 rfl (by omega) _ 0 [] rfl HLIT.out w3.heap.size A6 u u (u8s st) rfl (by rw [u8s_len, HSTL.out, Nat.mul_one]) ((HRT.out.below HLX.out (Nat.le_refl _)).alloc (by omega) _) u8s_one (by simp only [maxLen]; omega) (by omega) (by simp) ?_; intro v4 w4 hown4 hg4 hat4; rw [Nat.zero_add, List.nil_append] at hown4; obtain ⟨A4, c4, rfl, hc4, hc4'⟩ := own_form hown4; have HO4 := hide hown4; have HL4 := hide (show Le X w4 from ((Below.refl _ _).alloc (Nat.le_refl _) _).grown hg4 (by simp) (fun g hg => own_ge HLIT.out hg (Nat.le_refl _))); have hbx := HBX.out.below HL4.out HBX.out.lt; have b0 := hbx.cell 0 (.int .i64 (T : Int)) rfl; have b1 := hbx.cell 1 (.bool true) rfl; have b2 := hbx.cell 2 (.int .u64 0) rfl; have b3 := hbx.cell 3 (.slice none 0 0) rfl; have z3 := hbx.frozen 3; have HBX4 := hide hbx; clear hown4 hg4 hat4 hbx))
                  | (at_builtin; (obtain ⟨Y, hY⟩ : ∃ Y, w4.setCell ⟨w3.heap.size, 3, none⟩ (.slice A4 u c4) = Y := ⟨_, rfl⟩; rw [hY]; have HY := hide hY; have HLY := hide (show Le w3 Y by rw [← hY]; exact (show Below w3.heap.size w3 w4 from HLX.out.trans HL4.out).setCell (Nat.le_refl _) _); have hzY : Y.heap.size = w4.heap.size := (by rw [← hY]; simp); have HOY := hide (own_below HO.out (HL23.out.trans HLY.out)); have HNY := hide (show Y.ownsRow X.heap.size 5 1 (.slice A4 u c4) u (u8s st) by rw [← hY]; exact own_other HO4.out (show w3.heap.size < X.heap.size by omega) _); have hrow := hide (row_cells4 Y (.int .i64 (T : Int)) (.bool true) (.int .u64 0) (.slice A4 u c4) 54); rw [hzY] at hrow; clear hY; (refine wpList_append_row _ rfl (.tmp 78) (.tmp 80) 28 rfl w.heap.size 54 infoRF Tryd.underlying28 rfl (by omega) (.slice A3 K c3) K _ rfl (HOY.out.alloc _) _ (some ⟨w4.heap.size, 0, none⟩) 1 1 _ rfl rfl hrow.out (by intro z hz; simp at hz; rcases hz with rfl | rfl | rfl | rfl <;> rfl) (by simp only [maxLen]; omega) (by omega) (by have h1 := HLX.out.size; have h2 := HL4.out.size; simp; omega) ?_; intro v' w' hown' hg hat; obtain ⟨A', c', rfl, -, -⟩ := own_form hown'; have HO' := hide hown'; have HG := hide hg; have HAT := hide hat; clear hown' hg hat))))
                have hsY := HLY.out.size
                have hfrN := own_fresh HNY.out HSTL.out
                have hsnew : Sep (Y.alloc (.cells #[.int .i64 (T : Int), .bool true, .int .u64 0, .slice A4 u c4] 54)) (.slice A3 K c3) [(⟨(T : Int), true, 0, st⟩, A4, c4)] := Sep.one (by simp only; rw [HSTL.out]; exact hc4) hc4' ((Row.of_own HNY.out).le ((Below.refl _ _).alloc (Nat.le_refl _) _)) (fun hne a ha he => by
                  have h3 := hfrN hne a ha
                  have h4 := (HO.out.lt _ he).2
                  omega)
                have HSY := hide (HS.out.le (HL23.out.trans HLY.out))
                have HS' := hide (((HSY.out.le ((Below.refl _ _).alloc (Nat.le_refl _) _)).append hsnew).grown HG.out HAT.out)
                have HRR := hide (show Row w3 w3.heap.size A6 (u8s sd) by have h := (Row.of_own HO3.out).drop u (A' := A6) (fun h => by rw [u8s_len, HR2.out] at h; omega); rw [u8s_drop, HSD.out] at h; exact h)
                have hfrX : u8s sd ≠ [] → ∀ a, A6 = some a → w2.heap.size ≤ a.block := fun hne => absurd (by rw [List.length_eq_zero_iff.1 (HSDL.out.trans (by omega))]; rfl) hne
                have HRR' := hide (((HRR.out.le HLY.out).le ((Below.refl Y.heap.size Y).alloc (Nat.le_refl _) _)).grown_ne HG.out (fun hne a ha he => by
                  have h3 := hfrX hne a ha
                  have h4 := (HO.out.lt _ he).2
                  have h5 := HL2.out.size
                  omega))
                have HX' : Hid (u8s sd ≠ [] → ∀ a, A6 = some a → (Value.slice A' (K + 1) c').ownBlock ≠ some a.block) := fun hne a ha he => by
                  have h3 := hfrX hne a ha
                  have h5 := HL2.out.size
                  obtain ⟨b6, o6, hA6, hb6, -⟩ := HRR.out hne
                  rcases HAT.out with h | h
                  · rw [h] at he
                    have h4 := (HO.out.lt _ he).2
                    omega
                  · rw [h] at he
                    rw [hA6] at ha
                    injection ha with ha
                    subst ha
                    injection he with he
                    simp at he
                    omega
                have HB' := hide (show Below w.heap.size w w' from ((HB.out.trans ((HL23.out.trans HLY.out).mono hz)).alloc (by omega) _).trans (below_own HG.out (Nat.le_refl _) (by simp; omega) (fun g h => own_ge HOY.out h (Nat.le_refl _))))
                refine ⟨⟨0, 0, K + 1, c', A6, A', sd, o ++ [(⟨(T : Int), true, 0, st⟩, A4, c4)], rfl, rfl, hide (HSDL.out.trans (by omega)), by omega, by omega, hide (by have := hc6'; unfold maxLen at this ⊢; omega), HSD8, HRR', hide ?_, hide (by simp [HOL.out]), hide ?_, HS', hide ?_, HX', HB'⟩, by simp only [slen]; omega⟩
                · rw [List.map_append]; exact HD.out
                · rw [fcs_append]; simp only [fcs, List.flatMap_cons, List.flatMap_nil, cellsF, List.append_nil, HSTL.out]; exact HO'.out
                · intro p hp
                  rcases List.mem_append.1 hp with hp | hp
                  · exact HO8.out p hp
                  · rw [List.mem_singleton.1 hp]; exact HST8.out
#print axioms refwtake_any
end Go.Proofs.YtjliocbdidiemaaDoor
