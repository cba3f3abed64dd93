/-
  Fields, walked: the field that bytes begin with.
-/
import Derived.Test.YtjliocbdidiemaaDoorQD
import Derived.Test.YtjliocbdidiemaaDoorQTake
import Derived.Test.YtjliocbdidiemaaDoorRegionS
import Derived.Test.YtjliocbdidiemaaDoorVarTk
namespace Go.Proofs.YtjliocbdidiemaaDoor
open Go.RowKit
set_option linter.unusedVariables false

theorem and7 (u : Nat) (h : u < 18446744073709551616) : bits .and .u64 (u : Int) 7 = ((u % 8 : Nat) : Int) := by
  have h2 := bits_and_u64_nat u 7 h (by omega)
  rw [show ((7 : Nat) : Int) = 7 from rfl] at h2
  rw [h2, Nat.and_two_pow_sub_one_eq_mod u 3]
/-- What one says of bytes. -/
def OneR (l : List Nat) (w : World) (e : Ending) (w' : World) : Prop :=
  (∃ t : Int, wi.one l = none ∧ e = .returned (.tuple #[.agg #[.int .i64 t, .bool false, .int .u64 0, .slice none 0 0], .slice none 0 0, .int .i64 2]) ∧ Le w w') ∨
  (∃ (f : Fld) (r : List Nat) (A1 : Option Addr) (c1 : Nat) (A2 : Option Addr) (c2 : Nat), wi.one l = some (f, r) ∧
    e = .returned (.tuple #[.agg #[.int .i64 f.tag, .bool f.isB, .int .u64 (f.n : Int), .slice A1 f.b.length c1], .slice A2 r.length c2, .int .i64 0]) ∧
    (f.b.length ≤ c1 ∧ c1 ≤ maxLen ∧ Row w' w'.heap.size A1 (u8s f.b)) ∧ (r.length ≤ c2 ∧ c2 ≤ maxLen ∧ Row w' w'.heap.size A2 (u8s r)) ∧ (u8s f.b ≠ [] → ∀ a, A1 = some a → w.heap.size ≤ a.block) ∧ (u8s r ≠ [] → ∀ a, A2 = some a → w.heap.size ≤ a.block) ∧ Le w w')

theorem own_fresh {w : World} {base n c : Nat} {e : TypeId} {A : Option Addr} {l : List Nat} (h : w.ownsRow base e 1 (.slice A n c) n (u8s l)) (hl : l.length = n) (hn : u8s l ≠ []) : ∀ a, A = some a → base ≤ a.block := fun a ha => by
  have h0 : 0 < n := by
    rcases Nat.eq_zero_or_pos n with h0 | h0
    · exact absurd (by rw [h0] at hl; rw [List.length_eq_zero_iff.1 hl]; rfl) hn
    · exact h0
  obtain ⟨g, cap, hv, hge, -⟩ := h.form h0
  injection hv with hv
  rw [ha] at hv
  injection hv with hv
  subst hv
  exact hge
theorem own_fresh_drop {w : World} {base n c u : Nat} {e : TypeId} {A : Option Addr} {l : List Nat} (h : w.ownsRow base e 1 (.slice A n c) n (u8s l)) (hl : l.length = n) (hn : u8s (l.drop u) ≠ []) : ∀ a, A.map (·.add u) = some a → base ≤ a.block := fun a ha => by
  obtain ⟨b, hb, rfl⟩ := Option.map_eq_some_iff.1 ha
  have := own_fresh h hl (fun h0 => hn (by rw [← u8s_drop, h0, List.drop_nil])) b hb
  have e : (b.add u).block = b.block := by unfold Addr.add; split <;> rfl
  rw [e]; exact this
theorem own_set4 {w W : World} {base size n : Nat} {e : TypeId} {v : Value} {xs : List Value} (h : W.ownsRow base e size v n xs) (hb : w.heap.size < base) (a b c d : Value) : ((((W.setCell ⟨w.heap.size, 0, none⟩ a).setCell ⟨w.heap.size, 1, none⟩ b).setCell ⟨w.heap.size, 2, none⟩ c).setCell ⟨w.heap.size, 3, none⟩ d).ownsRow base e size v n xs :=
  own_other (own_other (own_other (own_other h hb a) hb b) hb c) hb d
theorem below_self (B i : Nat) (W : World) (a : Value) : Below B W (W.setCell ⟨B, i, none⟩ a) := (Below.refl B W).setCell (p := ⟨B, i, none⟩) (Nat.le_refl _) a
theorem below_set4 {w W : World} (h : Below w.heap.size w W) (a b c d : Value) : Below w.heap.size w ((((W.setCell ⟨w.heap.size, 0, none⟩ a).setCell ⟨w.heap.size, 1, none⟩ b).setCell ⟨w.heap.size, 2, none⟩ c).setCell ⟨w.heap.size, 3, none⟩ d) :=
  (((h.setCell (Nat.le_refl _) a).setCell (Nat.le_refl _) b).setCell (Nat.le_refl _) c).setCell (Nat.le_refl _) d
set_option maxRecDepth 100000 in
set_option maxHeartbeats 2000000 in
theorem one_any (w : World) (A : Option Addr) (n c : Nat) (l : List Nat) (hl : l.length = n) (hn : n ≤ 1000000000) (hnc : n ≤ c) (hc : c ≤ maxLen) (h8 : ∀ x ∈ l, x < 256) (hr : Row w w.heap.size A (u8s l)) :
    Calls Tryd.prog 19 #[.slice A n c] w (OneR l w) := by
  have HL := hide hl
  have H8 := hide h8
  clear hl h8
  obtain ⟨W, hW⟩ : ∃ W, w.alloc (.cells #[.int .i64 0, .bool false, .int .u64 0, .slice none 0 0] 49) = W := ⟨_, rfl⟩
  have bx : Box W w.heap.size #[.int .i64 0, .bool false, .int .u64 0, .slice none 0 0] 49 := by rw [← hW]; exact box_new _ _ _
  have HLW := hide (show Le w W by rw [← hW]; exact (Below.refl _ _).alloc (Nat.le_refl _) _)
  have HW := hide hW
  clear hW
  go_enter Tryd.func19, Tryd.ntmps19
  go_wp2_with fail
  rw [HW.out]
  refine (take_any W A n c l HL.out hn hnc hc H8.out (hr.le HLW.out)).mono ?_
  rintro e w1 ⟨v1, rfl, hown1, hb1⟩
  have HL1 := hide (show Le w w1 from HLW.out.trans hb1)
  have bx1 := bx.below hb1 bx.lt
  have c0 := bx1.cell 0 (.int .i64 0) rfl
  have c1 := bx1.cell 1 (.bool false) rfl
  have c2 := bx1.cell 2 (.int .u64 0) rfl
  have c3 := bx1.cell 3 (.slice none 0 0) rfl
  have f0 := bx1.frozen 0
  have f1 := bx1.frozen 1
  have f2 := bx1.frozen 2
  have f3 := bx1.frozen 3
  have HBX1 := hide bx1
  clear hb1 bx bx1
  cases hv1 : var.vtake l with
  | none =>
    obtain ⟨e1, e2, e3⟩ := tk_none hv1
    rw [e2] at hown1
    rw [e1, e3]
    have HX := hide (wi.one_none1 hv1)
    obtain ⟨A1, cc1, rfl, -, -⟩ := own_form hown1
    clear hown1 hv1 e1 e2 e3
    go_wp2_with fail
    refine bodyPost_ret (box_results2 rfl _ ((((HBX1.out.set 0 _).set 1 _).set 2 _).set 3 _) rfl Tryd.underlying49 rfl rfl) rfl ?_
    exact .inl ⟨0, HX.out, rfl, below_set4 HL1.out _ _ _ _⟩
  | some p =>
    obtain ⟨k, m⟩ := p
    obtain ⟨e1, e2, e3⟩ := tk_some hv1
    rw [e2] at hown1
    rw [e1, e3]
    have HK64 := hide (vtake_s64 H8.out hv1)
    have H8m := hide (vtake8 H8.out hv1)
    have HV1 := hide hv1
    obtain ⟨A1, cc1, rfl, hc1, hc1'⟩ := own_form hown1
    have HR1 := hide (Row.of_own hown1)
    have hml : m.length ≤ n := by
      obtain ⟨p, hp, -⟩ := var.vtake_suffix hv1
      have := congrArg List.length hp
      rw [List.length_append, HL.out] at this
      omega
    obtain ⟨M, hM⟩ : ∃ M, m.length = M := ⟨_, rfl⟩
    rw [hM] at hml hc1 ⊢
    have HM := hide hM
    clear hown1 hv1 e1 e2 e3 hM
    go_wp2_with fail
    refine (take_any w1 A1 M cc1 m HM.out (by omega) hc1 hc1' H8m.out HR1.out).mono ?_
    rintro e w2 ⟨v2, rfl, hown2, hb2⟩
    have HL2 := hide (show Le w w2 from HL1.out.trans hb2)
    have bx2 := HBX1.out.below hb2 HBX1.out.lt
    have d0 := bx2.cell 0 (.int .i64 0) rfl
    have d1 := bx2.cell 1 (.bool false) rfl
    have d2 := bx2.cell 2 (.int .u64 0) rfl
    have d3 := bx2.cell 3 (.slice none 0 0) rfl
    have g0 := bx2.frozen 0
    have g1 := bx2.frozen 1
    have g2 := bx2.frozen 2
    have g3 := bx2.frozen 3
    have HBX2 := hide bx2
    clear hb2 bx2 c0 c1 c2 c3 f0 f1 f2 f3
    cases hv2 : var.vtake m with
    | none =>
      obtain ⟨e1, e2, e3⟩ := tk_none hv2
      rw [e2] at hown2
      rw [e1, e3]
      have HX := hide (wi.one_none2 HV1.out hv2)
      obtain ⟨A2, cc2, rfl, -, -⟩ := own_form hown2
      clear hown2 hv2 e1 e2 e3
      go_wp2_with fail
      refine bodyPost_ret (box_results2 rfl _ ((((HBX2.out.set 0 _).set 1 _).set 2 _).set 3 _) rfl Tryd.underlying49 rfl rfl) rfl ?_
      exact .inl ⟨0, HX.out, rfl, below_set4 HL2.out _ _ _ _⟩
    | some q =>
      obtain ⟨u, s⟩ := q
      obtain ⟨e1, e2, e3⟩ := tk_some hv2
      rw [e2] at hown2
      rw [e1, e3]
      have HU64 := hide (vtake_s64 H8m.out hv2)
      have HV2 := hide hv2
      obtain ⟨A2, cc2, rfl, hc2, hc2'⟩ := own_form hown2
      have HR2 := hide (Row.of_own hown2)
      have hsl : s.length ≤ n := by
        obtain ⟨p, hp, -⟩ := var.vtake_suffix hv2
        have := congrArg List.length hp
        rw [List.length_append, HM.out] at this
        omega
      obtain ⟨S, hS⟩ : ∃ S, s.length = S := ⟨_, rfl⟩
      rw [hS] at hsl hc2 hown2 ⊢
      have HO2 := hide hown2
      have hbw : w.heap.size < w1.heap.size := HBX1.out.lt
      have HS := hide hS
      have hand := and7 k HK64.out
      obtain ⟨T, hT⟩ : ∃ T, T = k / 8 := ⟨_, rfl⟩
      obtain ⟨R, hR⟩ : ∃ R, R = k % 8 := ⟨_, rfl⟩
      rw [← hR] at hand
      have hdiv : (k : Int) / 8 = (T : Int) := by omega
      have HT := hide hT
      have HR := hide hR
      clear hown2 hv2 e1 e2 e3 hS hT hR
      by_cases hbad : T < 1 ∨ 100 < T
      · have HX := hide (wi.one_bad HV1.out HV2.out (.inl (by rw [← HT.out]; omega)))
        rcases hbad with hb | hb
        · go_wp2_with fail
          refine bodyPost_ret (box_results2 rfl _ ((((HBX2.out.set 0 _).set 1 _).set 2 _).set 3 _) rfl Tryd.underlying49 rfl rfl) rfl ?_
          exact .inl ⟨0, HX.out, rfl, below_set4 HL2.out _ _ _ _⟩
        · have hb1 : ¬ (T < 1) := by omega
          go_wp2_with fail
          refine bodyPost_ret (box_results2 rfl _ ((((HBX2.out.set 0 _).set 1 _).set 2 _).set 3 _) rfl Tryd.underlying49 rfl rfl) rfl ?_
          exact .inl ⟨0, HX.out, rfl, below_set4 HL2.out _ _ _ _⟩
      · have hT1 : 1 ≤ T := by omega
        have hT2 : T ≤ 100 := by omega
        have dT1 : decide ((T : Int) < 1) = false := decide_eq_false (by omega)
        have dT2 : decide ((100 : Int) < (T : Int)) = false := decide_eq_false (by omega)
        have hTw : IntKind.i64.wrap (T : Int) = (T : Int) := IntWalk.i64_in _ (by omega)
        clear hbad
        by_cases hR0 : R = 0
        · have HX := hide (wi.one_num HV1.out HV2.out (by rw [← HT.out]; omega) (by rw [← HR.out]; exact hR0))
          rw [← HT.out] at HX
          subst hR0
          go_wp2_with fail
          refine bodyPost_ret (box_results2 rfl _ ((((((HBX2.out.set 0 _).set 2 _).set 0 _).set 1 _).set 2 _).set 3 _) rfl Tryd.underlying49 rfl rfl) rfl ?_
          exact .inr ⟨_, s, none, 0, A2, cc2, HX.out, by rw [HS.out]; rfl, ⟨by simp, by unfold maxLen; simp, Row.none_⟩, ⟨by rw [HS.out]; exact hc2, hc2', Row.of_own (own_set4 (own_other (own_other HO2.out hbw _) hbw _) hbw _ _ _ _)⟩, fun h => absurd rfl h, fun h a ha => by have := own_fresh HO2.out HS.out h a ha; omega, below_set4 ((HL2.out.setCell (Nat.le_refl _) _).setCell (Nat.le_refl _) _) _ _ _ _⟩
        · by_cases hR2 : R = 2
          · subst hR2
            by_cases hu : S < u
            · have HX := hide (wi.one_bad HV1.out HV2.out (.inr ⟨by rw [← HR.out]; omega, fun h => by rw [HS.out] at h; omega⟩))
              go_wp2_with fail
              refine bodyPost_ret (box_results2 rfl _ (((((HBX2.out.set 0 _).set 0 _).set 1 _).set 2 _).set 3 _) rfl Tryd.underlying49 rfl rfl) rfl ?_
              exact .inl ⟨T, HX.out, rfl, below_set4 (HL2.out.setCell (Nat.le_refl _) _) _ _ _ _⟩
            · have HX := hide (wi.one_bytes HV1.out HV2.out (by rw [← HT.out]; omega) (by rw [← HR.out]) (by rw [HS.out]; omega))
              rw [← HT.out] at HX
              have hule : u ≤ S := by omega
              have huc : u ≤ cc2 := by omega
              rcases Nat.lt_or_ge u cc2 with hlt | hge
              · have hne : ¬ (u = cc2) := by omega
                go_wp2_with fail
                obtain ⟨V, hV⟩ : ∃ V, (w2.setCell ⟨w.heap.size, 0, none⟩ (.int .i64 (T : Int))).drew = V := ⟨_, rfl⟩
                have bxV : Box V w.heap.size #[.int .i64 (T : Int), .bool false, .int .u64 0, .slice none 0 0] 49 := by rw [← hV]; exact (HBX2.out.set 0 _).drew
                have HLV := hide (show Below w.heap.size w V by rw [← hV]; exact (HL2.out.setCell (Nat.le_refl _) _).drew)
                have HOV := hide (show V.ownsRow w1.heap.size 5 1 (.slice A2 S cc2) S (u8s s) by rw [← hV]; exact own_other HO2.out hbw _)
                have b0 := bxV.cell 0 (.int .i64 (T : Int)) rfl
                have b1 := bxV.cell 1 (.bool false) rfl
                have b2 := bxV.cell 2 (.int .u64 0) rfl
                have b3 := bxV.cell 3 (.slice none 0 0) rfl
                have z1 := bxV.frozen 1
                have z3 := bxV.frozen 3
                have HBV := hide bxV
                have HV := hide hV
                clear hV bxV d0 d1 d2 d3 g0 g1 g2 g3
                refine region_pib (B := w.heap.size) [(0, true), (1, true), (2, true), (3, true), (4, false), (5, true), (6, false)] (by kernel_rfl) (by kernel_rfl) ?_
                simp only [opsPi, List.filterMap_cons, List.filterMap_nil, List.getElem?_toArray, List.getElem?_cons_zero, List.getElem?_cons_succ, Option.map_some]
                rw [HV.out]
                repeat (first | (refine pib_take (v := _) rfl (fun W hW => by go_simp <;> exact rfl) ?_; simp only [Act.put, List.setIfInBounds_toArray, List.set_cons_zero, List.set_cons_succ]) | (refine pib_skip rfl ?_; simp only [Act.put, List.setIfInBounds_toArray, List.set_cons_zero, List.set_cons_succ]))
                refine pib_run ?_
                go_wp2_with fail
                refine ⟨below_self _ _ _ _, ?_⟩
                repeat (first | (refine pib_take (v := _) rfl (fun W hW => by go_simp <;> exact rfl) ?_; simp only [Act.put, List.setIfInBounds_toArray, List.set_cons_zero, List.set_cons_succ]) | (refine pib_skip rfl ?_; simp only [Act.put, List.setIfInBounds_toArray, List.set_cons_zero, List.set_cons_succ]))
                refine pib_run ?_
                go_wp2_with fail
                refine ⟨below_self _ _ _ _, ?_⟩
                refine pib_done ?_
                clear b0 b1 b2 b3 z1 z3
                go_wp2_with fail
                obtain ⟨X, hX⟩ : ∃ X, ((V.setCell ⟨w.heap.size, 1, none⟩ (.bool true)).setCell ⟨w.heap.size, 3, none⟩ (.slice A2 u cc2)).drew = X := ⟨_, rfl⟩
                have bxX : Box X w.heap.size #[.int .i64 (T : Int), .bool true, .int .u64 0, .slice A2 u cc2] 49 := by rw [← hX]; exact ((HBV.out.set 1 _).set 3 _).drew
                have HBX3 := hide bxX
                have HLX := hide (show Below w.heap.size w X by rw [← hX]; exact (HLV.out.trans ((below_self _ 1 V _).trans (below_self _ 3 _ _))).drew)
                have HOX := hide (show X.ownsRow w1.heap.size 5 1 (.slice A2 S cc2) S (u8s s) by rw [← hX]; exact own_other (own_other HOV.out hbw _) hbw _)
                obtain ⟨SS, hSS⟩ : ∃ SS : World → Prop, SS = fun W' => Below w.heap.size X W' ∧ Box W' w.heap.size #[.int .i64 (T : Int), .bool true, .int .u64 0, .slice A2 u cc2] 49 := ⟨_, rfl⟩
                have k0 : ∀ W', SS W' → W'.cell? ⟨w.heap.size, 0, none⟩ = some (.int .i64 (T : Int)) := fun W' h => by rw [hSS] at h; exact h.2.cell 0 _ rfl
                have k1 : ∀ W', SS W' → W'.cell? ⟨w.heap.size, 1, none⟩ = some (.bool true) := fun W' h => by rw [hSS] at h; exact h.2.cell 1 _ rfl
                have k2 : ∀ W', SS W' → W'.cell? ⟨w.heap.size, 2, none⟩ = some (.int .u64 0) := fun W' h => by rw [hSS] at h; exact h.2.cell 2 _ rfl
                have k3 : ∀ W', SS W' → W'.cell? ⟨w.heap.size, 3, none⟩ = some (.slice A2 u cc2) := fun W' h => by rw [hSS] at h; exact h.2.cell 3 _ rfl
                have b0 := bxX.cell 0 (.int .i64 (T : Int)) rfl
                have b1 := bxX.cell 1 (.bool true) rfl
                have b2 := bxX.cell 2 (.int .u64 0) rfl
                have b3 := bxX.cell 3 (.slice A2 u cc2) rfl
                have z0 := bxX.frozen 0
                have z1 := bxX.frozen 1
                have z2 := bxX.frozen 2
                have z3 := bxX.frozen 3
                have HXX := hide hX
                have HSS := hide hSS
                clear hX hSS bxX
                refine region_pis SS [(0, true), (1, true), (2, true), (3, true), (4, false), (5, true), (6, true)] (by kernel_rfl) (by kernel_rfl) ?_ ?_
                · rw [HXX.out, HSS.out]
                  exact ⟨Below.refl _ _, HBX3.out⟩
                simp only [opsPi, List.filterMap_cons, List.filterMap_nil, List.getElem?_toArray, List.getElem?_cons_zero, List.getElem?_cons_succ, Option.map_some]
                rw [HXX.out]
                refine pis_take (v := .agg #[.int .i64 (T : Int), .bool true, .int .u64 0, .slice A2 u cc2]) rfl (fun W' hW' => ?_) ?_
                · have q0 := k0 W' hW'
                  have q1 := k1 W' hW'
                  have q2 := k2 W' hW'
                  have q3 := k3 W' hW'
                  clear k0 k1 k2 k3
                  go_simp
                simp only [Act.put, List.setIfInBounds_toArray, List.set_cons_zero, List.set_cons_succ]
                clear k0 k1 k2 k3
                repeat (first | (refine pis_take (v := _) rfl (fun W hW => by go_simp <;> exact rfl) ?_; simp only [Act.put, List.setIfInBounds_toArray, List.set_cons_zero, List.set_cons_succ]) | (refine pis_skip rfl ?_; simp only [Act.put, List.setIfInBounds_toArray, List.set_cons_zero, List.set_cons_succ]))
                refine pis_run ?_
                go_wp2_with fail
                refine ⟨by rw [HSS.out]; exact ⟨(below_self _ 0 X _).trans ((below_self _ 1 _ _).trans ((below_self _ 2 _ _).trans (below_self _ 3 _ _))), (((HBX3.out.set 0 (.int .i64 (T : Int))).set 1 (.bool true)).set 2 (.int .u64 0)).set 3 (.slice A2 u cc2)⟩, ?_⟩
                repeat (first | (refine pis_take (v := _) rfl (fun W hW => by go_simp <;> exact rfl) ?_; simp only [Act.put, List.setIfInBounds_toArray, List.set_cons_zero, List.set_cons_succ]) | (refine pis_skip rfl ?_; simp only [Act.put, List.setIfInBounds_toArray, List.set_cons_zero, List.set_cons_succ]))
                refine pis_done ?_
                go_wp2_with fail
                refine bodyPost_ret (box_results2 rfl _ ((((HBX3.out.set 0 _).set 1 _).set 2 _).set 3 _) rfl Tryd.underlying49 rfl rfl) rfl ?_
                have HOF := own_set4 HOX.out hbw (.int .i64 (T : Int)) (.bool true) (.int .u64 0) (.slice A2 u cc2)
                have r1 := (Row.of_own HOF).take u
                rw [u8s_take] at r1
                have r2 := (Row.of_own HOF).drop u (A' := (A2.map (·.add u))) (fun _ => rfl)
                rw [u8s_drop] at r2
                exact .inr ⟨_, s.drop u, A2, cc2, (A2.map (·.add u)), (cc2 - u), HX.out, by simp only [List.length_take, List.length_drop, HS.out, Nat.min_eq_left hule]; rfl, ⟨by simp only [List.length_take, HS.out]; omega, hc2', r1⟩, ⟨by simp only [List.length_drop, HS.out]; omega, by first | exact Nat.zero_le _ | exact Nat.le_trans (Nat.sub_le _ _) hc2', r2⟩, fun h a ha => by have := own_fresh HO2.out HS.out (fun h0 => h (by rw [← u8s_take, h0]; simp)) a ha; omega, fun h a ha => by have := own_fresh_drop HO2.out HS.out h a ha; omega, below_set4 HLX.out _ _ _ _⟩
              · obtain rfl : u = cc2 := by omega
                go_wp2_with fail
                obtain ⟨V, hV⟩ : ∃ V, (w2.setCell ⟨w.heap.size, 0, none⟩ (.int .i64 (T : Int))).drew = V := ⟨_, rfl⟩
                have bxV : Box V w.heap.size #[.int .i64 (T : Int), .bool false, .int .u64 0, .slice none 0 0] 49 := by rw [← hV]; exact (HBX2.out.set 0 _).drew
                have HLV := hide (show Below w.heap.size w V by rw [← hV]; exact (HL2.out.setCell (Nat.le_refl _) _).drew)
                have HOV := hide (show V.ownsRow w1.heap.size 5 1 (.slice A2 S u) S (u8s s) by rw [← hV]; exact own_other HO2.out hbw _)
                have b0 := bxV.cell 0 (.int .i64 (T : Int)) rfl
                have b1 := bxV.cell 1 (.bool false) rfl
                have b2 := bxV.cell 2 (.int .u64 0) rfl
                have b3 := bxV.cell 3 (.slice none 0 0) rfl
                have z1 := bxV.frozen 1
                have z3 := bxV.frozen 3
                have HBV := hide bxV
                have HV := hide hV
                clear hV bxV d0 d1 d2 d3 g0 g1 g2 g3
                refine region_pib (B := w.heap.size) [(0, true), (1, true), (2, true), (3, true), (4, false), (5, true), (6, false)] (by kernel_rfl) (by kernel_rfl) ?_
                simp only [opsPi, List.filterMap_cons, List.filterMap_nil, List.getElem?_toArray, List.getElem?_cons_zero, List.getElem?_cons_succ, Option.map_some]
                rw [HV.out]
                repeat (first | (refine pib_take (v := _) rfl (fun W hW => by go_simp <;> exact rfl) ?_; simp only [Act.put, List.setIfInBounds_toArray, List.set_cons_zero, List.set_cons_succ]) | (refine pib_skip rfl ?_; simp only [Act.put, List.setIfInBounds_toArray, List.set_cons_zero, List.set_cons_succ]))
                refine pib_run ?_
                go_wp2_with fail
                refine ⟨below_self _ _ _ _, ?_⟩
                repeat (first | (refine pib_take (v := _) rfl (fun W hW => by go_simp <;> exact rfl) ?_; simp only [Act.put, List.setIfInBounds_toArray, List.set_cons_zero, List.set_cons_succ]) | (refine pib_skip rfl ?_; simp only [Act.put, List.setIfInBounds_toArray, List.set_cons_zero, List.set_cons_succ]))
                refine pib_run ?_
                go_wp2_with fail
                refine ⟨below_self _ _ _ _, ?_⟩
                refine pib_done ?_
                clear b0 b1 b2 b3 z1 z3
                go_wp2_with fail
                obtain ⟨X, hX⟩ : ∃ X, ((V.setCell ⟨w.heap.size, 1, none⟩ (.bool true)).setCell ⟨w.heap.size, 3, none⟩ (.slice A2 u u)).drew = X := ⟨_, rfl⟩
                have bxX : Box X w.heap.size #[.int .i64 (T : Int), .bool true, .int .u64 0, .slice A2 u u] 49 := by rw [← hX]; exact ((HBV.out.set 1 _).set 3 _).drew
                have HBX3 := hide bxX
                have HLX := hide (show Below w.heap.size w X by rw [← hX]; exact (HLV.out.trans ((below_self _ 1 V _).trans (below_self _ 3 _ _))).drew)
                have HOX := hide (show X.ownsRow w1.heap.size 5 1 (.slice A2 S u) S (u8s s) by rw [← hX]; exact own_other (own_other HOV.out hbw _) hbw _)
                obtain ⟨SS, hSS⟩ : ∃ SS : World → Prop, SS = fun W' => Below w.heap.size X W' ∧ Box W' w.heap.size #[.int .i64 (T : Int), .bool true, .int .u64 0, .slice A2 u u] 49 := ⟨_, rfl⟩
                have k0 : ∀ W', SS W' → W'.cell? ⟨w.heap.size, 0, none⟩ = some (.int .i64 (T : Int)) := fun W' h => by rw [hSS] at h; exact h.2.cell 0 _ rfl
                have k1 : ∀ W', SS W' → W'.cell? ⟨w.heap.size, 1, none⟩ = some (.bool true) := fun W' h => by rw [hSS] at h; exact h.2.cell 1 _ rfl
                have k2 : ∀ W', SS W' → W'.cell? ⟨w.heap.size, 2, none⟩ = some (.int .u64 0) := fun W' h => by rw [hSS] at h; exact h.2.cell 2 _ rfl
                have k3 : ∀ W', SS W' → W'.cell? ⟨w.heap.size, 3, none⟩ = some (.slice A2 u u) := fun W' h => by rw [hSS] at h; exact h.2.cell 3 _ rfl
                have b0 := bxX.cell 0 (.int .i64 (T : Int)) rfl
                have b1 := bxX.cell 1 (.bool true) rfl
                have b2 := bxX.cell 2 (.int .u64 0) rfl
                have b3 := bxX.cell 3 (.slice A2 u u) rfl
                have z0 := bxX.frozen 0
                have z1 := bxX.frozen 1
                have z2 := bxX.frozen 2
                have z3 := bxX.frozen 3
                have HXX := hide hX
                have HSS := hide hSS
                clear hX hSS bxX
                refine region_pis SS [(0, true), (1, true), (2, true), (3, true), (4, false), (5, true), (6, true)] (by kernel_rfl) (by kernel_rfl) ?_ ?_
                · rw [HXX.out, HSS.out]
                  exact ⟨Below.refl _ _, HBX3.out⟩
                simp only [opsPi, List.filterMap_cons, List.filterMap_nil, List.getElem?_toArray, List.getElem?_cons_zero, List.getElem?_cons_succ, Option.map_some]
                rw [HXX.out]
                refine pis_take (v := .agg #[.int .i64 (T : Int), .bool true, .int .u64 0, .slice A2 u u]) rfl (fun W' hW' => ?_) ?_
                · have q0 := k0 W' hW'
                  have q1 := k1 W' hW'
                  have q2 := k2 W' hW'
                  have q3 := k3 W' hW'
                  clear k0 k1 k2 k3
                  go_simp
                simp only [Act.put, List.setIfInBounds_toArray, List.set_cons_zero, List.set_cons_succ]
                clear k0 k1 k2 k3
                repeat (first | (refine pis_take (v := _) rfl (fun W hW => by go_simp <;> exact rfl) ?_; simp only [Act.put, List.setIfInBounds_toArray, List.set_cons_zero, List.set_cons_succ]) | (refine pis_skip rfl ?_; simp only [Act.put, List.setIfInBounds_toArray, List.set_cons_zero, List.set_cons_succ]))
                refine pis_run ?_
                go_wp2_with fail
                refine ⟨by rw [HSS.out]; exact ⟨(below_self _ 0 X _).trans ((below_self _ 1 _ _).trans ((below_self _ 2 _ _).trans (below_self _ 3 _ _))), (((HBX3.out.set 0 (.int .i64 (T : Int))).set 1 (.bool true)).set 2 (.int .u64 0)).set 3 (.slice A2 u u)⟩, ?_⟩
                repeat (first | (refine pis_take (v := _) rfl (fun W hW => by go_simp <;> exact rfl) ?_; simp only [Act.put, List.setIfInBounds_toArray, List.set_cons_zero, List.set_cons_succ]) | (refine pis_skip rfl ?_; simp only [Act.put, List.setIfInBounds_toArray, List.set_cons_zero, List.set_cons_succ]))
                refine pis_done ?_
                go_wp2_with fail
                have hSu0 : S - u = 0 := by omega
                refine bodyPost_ret (box_results2 rfl _ ((((HBX3.out.set 0 _).set 1 _).set 2 _).set 3 _) rfl Tryd.underlying49 rfl rfl) rfl ?_
                have HOF := own_set4 HOX.out hbw (.int .i64 (T : Int)) (.bool true) (.int .u64 0) (.slice A2 u u)
                have r1 := (Row.of_own HOF).take u
                rw [u8s_take] at r1
                have r2 := (Row.of_own HOF).drop u (A' := A2) (fun h => by rw [u8s_len, HS.out] at h; omega)
                rw [u8s_drop] at r2
                exact .inr ⟨_, s.drop u, A2, u, A2, 0, HX.out, by simp only [List.length_take, List.length_drop, HS.out, Nat.min_eq_left hule, hSu0]; rfl, ⟨by simp only [List.length_take, HS.out]; omega, hc2', r1⟩, ⟨by simp only [List.length_drop, HS.out]; omega, by first | exact Nat.zero_le _ | exact Nat.le_trans (Nat.sub_le _ _) hc2', r2⟩, fun h a ha => by have := own_fresh HO2.out HS.out (fun h0 => h (by rw [← u8s_take, h0]; simp)) a ha; omega, fun h => absurd (by rw [List.drop_eq_nil_of_le (by rw [HS.out]; omega)]; rfl) h, below_set4 HLX.out _ _ _ _⟩
          · have HX := hide (wi.one_bad HV1.out HV2.out (.inr ⟨by rw [← HR.out]; exact hR0, fun h => hR2 (by rw [HR.out]; exact h.1)⟩))
            have hn0 : ((R : Int) != 0) = true := by simpa using hR0
            have hn2 : ((R : Int) != 2) = true := by simp; omega
            go_wp2_with fail
            refine bodyPost_ret (box_results2 rfl _ ((((HBX2.out.set 0 _).set 1 _).set 2 _).set 3 _) rfl Tryd.underlying49 rfl rfl) rfl ?_
            exact .inl ⟨0, HX.out, rfl, below_set4 HL2.out _ _ _ _⟩
end Go.Proofs.YtjliocbdidiemaaDoor
