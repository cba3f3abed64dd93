/-
  Records, walked: the one that bytes begin with, by the document.
-/
import Derived.Test.YtocpeiocgppkfaaTyB
namespace Go.Proofs.Ytocpeiocgppkfaa
open Go.RowKit
set_option linter.unusedVariables false

set_option maxRecDepth 100000 in
set_option maxHeartbeats 4000000 in
theorem refone_any (w : World) (A : Option Addr) (n c : Nat) (l : List Nat) (hl : l.length = n) (hn : n ≤ 1000000) (hnc : n ≤ c) (hc : c ≤ maxLen) (h8 : ∀ x ∈ l, x < 256) (hr : Row w w.heap.size A (u8s l)) :
    Calls Try.prog 33 #[.slice A n c] w (TxR l w) := by
  have HL := hide hl
  have H8 := hide h8
  have hcm : c ≤ 9223372036854775807 := hc
  clear hl h8
  obtain ⟨W, hW, hbx, hle, hzW⟩ := recbox w 0 0 25
  have b0 := hbx.cell 0 (.int .i64 0) rfl
  have b1 := hbx.cell 1 (.int .i64 0) rfl
  have f0 := hbx.frozen 0
  have f1 := hbx.frozen 1
  have HBX := hide hbx
  have HW := hide hW
  have HLE := hide hle
  clear hW hle hbx
  rcases l with _ | ⟨x, r⟩
  · obtain rfl : n = 0 := by have := HL.out; simpa using this.symm
    go_enter Try.func33, Try.ntmps33
    go_wp2_with fail
    rw [HW.out]
    go_wp2_with fail
    refine bodyPost_ret (box_results1 rfl _ HBX.out rfl Try.underlying25 rfl rfl) rfl ?_
    exact ⟨HLE.out, .inl ⟨ty.one_nil, 0, 0, rfl⟩⟩
  · have hnr : n = r.length + 1 := by have := HL.out; simpa using this.symm
    have hx : x < 256 := H8.out x (by simp)
    obtain ⟨bA, oA, rfl, hbA, hc0⟩ := hr.at_ (u8s_at (l := x :: r) (k := 0) rfl)
    rw [Nat.add_zero] at hc0
    have hc0 : w.cell? ⟨bA, oA, none⟩ = some (.int .u8 (x : Int)) := hc0
    have g0 : W.cell? ⟨bA, oA, none⟩ = some (.int .u8 (x : Int)) := (HLE.out.cell (p := ⟨bA, oA, none⟩) hbA).trans hc0
    have hpos : 0 < n := by omega
    have HNR := hide hnr
    clear hnr
    by_cases hs : n < 1 + x
    · have H1 := hide (ty.one_short (x := x) (r := r) (by have := HNR.out; omega))
      go_enter Try.func33, Try.ntmps33
      go_wp2_with fail
      rw [HW.out]
      go_wp2_with fail
      refine bodyPost_ret (box_results1 rfl _ HBX.out rfl Try.underlying25 rfl rfl) rfl ?_
      exact ⟨HLE.out, .inl ⟨H1.out, 0, 0, rfl⟩⟩
    · have HSUB := hide (show Row W W.heap.size (some ⟨bA, oA + 1, none⟩) (u8s (r.take x)) by
        have := ((hr.le HLE.out).drop 1 (A' := some ⟨bA, oA + 1, none⟩) (fun _ => by rw [Option.map_some, add_eq])).take x
        rwa [u8s_drop, u8s_take, List.drop_one, List.tail_cons] at this)
      have HSL := hide (show (r.take x).length = x by rw [List.length_take]; have := HNR.out; omega)
      have HS8 := hide (take8 (fun y hy => H8.out y (List.mem_cons_of_mem _ hy)) x)
      by_cases hc1 : c = 1
      · obtain rfl : x = 0 := by omega
        have H1 := hide (ty.one_zero r)
        have hd1 : decide ((n : Int) < 1) = false := decide_eq_false (by omega)
        subst hc1
        go_enter Try.func33, Try.ntmps33
        go_wp2_with fail
        rw [HW.out]
        go_wp2_with fail
        refine (refopen_any W _ 0 0 [] rfl (by omega) (by omega) (by unfold maxLen; omega) (by simp) Row.none_).mono ?_
        rintro e w1 ⟨v1, rfl, hown1, hb1⟩
        rw [(op_none opens_nil).1] at hown1
        rw [(op_none opens_nil).2]
        have HL1 := hide (show Le w w1 from HLE.out.trans hb1)
        have bx1 := HBX.out.below hb1 HBX.out.lt
        have d0 := bx1.cell 0 (.int .i64 0) rfl
        have d1 := bx1.cell 1 (.int .i64 0) rfl
        have k0 := bx1.frozen 0
        have k1 := bx1.frozen 1
        have HBX1 := hide bx1
        obtain ⟨A1, c1, rfl, -, -⟩ := own_form hown1
        clear hb1 hown1 bx1 b0 b1 f0 f1
        go_wp2_with fail
        refine bodyPost_ret (box_results1 rfl _ ((HBX1.out.set 0 _).set 1 _) rfl Try.underlying25 rfl rfl) rfl ?_
        exact ⟨(HL1.out.setCell (Nat.le_refl _) _).setCell (Nat.le_refl _) _, .inl ⟨H1.out, 0, 0, rfl⟩⟩
      · have hd1 : decide ((n : Int) < 1 + (x : Int)) = false := decide_eq_false (by omega)
        go_enter Try.func33, Try.ntmps33
        go_wp2_with fail
        rw [HW.out]
        go_wp2_with fail
        refine (refopen_any W _ x _ (r.take x) HSL.out (by omega) (by omega) (by unfold maxLen at hc ⊢; omega) HS8.out HSUB.out).mono ?_
        rintro e w1 ⟨v1, rfl, hown1, hb1⟩
        have HL1 := hide (show Le w w1 from HLE.out.trans hb1)
        have hz1 := HL1.out.size
        have bx1 := HBX.out.below hb1 HBX.out.lt
        have d0 := bx1.cell 0 (.int .i64 0) rfl
        have d1 := bx1.cell 1 (.int .i64 0) rfl
        have k0 := bx1.frozen 0
        have k1 := bx1.frozen 1
        have HBX1 := hide bx1
        clear hb1 bx1 b0 b1 f0 f1
        cases ho : opens (r.take x) with
        | none =>
          rw [(op_none ho).1] at hown1
          rw [(op_none ho).2]
          have H1 := hide (ty.one_unsealed ho)
          obtain ⟨A1, c1, rfl, -, -⟩ := own_form hown1
          clear hown1
          go_wp2_with fail
          refine bodyPost_ret (box_results1 rfl _ ((HBX1.out.set 0 _).set 1 _) rfl Try.underlying25 rfl rfl) rfl ?_
          exact ⟨(HL1.out.setCell (Nat.le_refl _) _).setCell (Nat.le_refl _) _, .inl ⟨H1.out, 0, 0, rfl⟩⟩
        | some y =>
          rw [(op_some ho).1] at hown1
          rw [(op_some ho).2]
          have hyl := opens_len ho
          rw [HSL.out] at hyl
          have hy8 := opened8 HS8.out
          rw [(op_some ho).1] at hy8
          have HY8 := hide hy8
          have HO := hide ho
          obtain ⟨Y, hY⟩ : ∃ Y, y.length = Y := ⟨_, rfl⟩
          rw [hY] at hown1 hyl
          obtain ⟨A1, c1, rfl, hYc, hc1m⟩ := own_form hown1
          have HR1 := hide (Row.of_own hown1)
          have HY := hide hY
          clear hown1 hY hy8 ho
          go_wp2_with fail
          refine (refwtake_any w1 A1 Y c1 y HY.out (by omega) hYc hc1m HY8.out HR1.out).mono ?_
          rintro e w2 ht
          rcases ht with ⟨hwt, rfl, hb2⟩ | ⟨o, A2, K, c2, hwt, hK, hKy, rfl, hr2, hh2, -, hb2⟩
          · have H1 := hide (ty.one_unwired HO.out hwt)
            have HL2 := hide (show Le w w2 from HL1.out.trans hb2)
            have bx2 := HBX1.out.below hb2 HBX1.out.lt
            have m0 := bx2.cell 0 (.int .i64 0) rfl
            have m1 := bx2.cell 1 (.int .i64 0) rfl
            have q0 := bx2.frozen 0
            have q1 := bx2.frozen 1
            have HBX2 := hide bx2
            clear hb2 bx2 d0 d1 k0 k1 hwt
            go_wp2_with fail
            refine bodyPost_ret (box_results1 rfl _ ((HBX2.out.set 0 _).set 1 _) rfl Try.underlying25 rfl rfl) rfl ?_
            exact ⟨(HL2.out.setCell (Nat.le_refl _) _).setCell (Nat.le_refl _) _, .inl ⟨H1.out, 0, 0, rfl⟩⟩
          · have hw1 := ty.one_wired (x := x) (r := r) (by have := HNR.out; omega) HO.out hwt
            have HL2 := hide (show Le w w2 from HL1.out.trans hb2)
            have bx2 := HBX1.out.below hb2 HBX1.out.lt
            have m0 := bx2.cell 0 (.int .i64 0) rfl
            have m1 := bx2.cell 1 (.int .i64 0) rfl
            have q0 := bx2.frozen 0
            have q1 := bx2.frozen 1
            have HBX2 := hide bx2
            have hz2 := HL2.out.size
            clear hb2 bx2 d0 d1 k0 k1
            by_cases hK2 : K = 2
            · subst hK2
              obtain ⟨p, q, rfl⟩ : ∃ p q, o = [p, q] := by
                match o, hK with
                | [p, q], _ => exact ⟨p, q, rfl⟩
              have hs64 := ty.wtake_s64 y.length y _ (Nat.le_refl _) HY8.out hwt
              have HSp := hide (hs64 p.1 (by simp))
              have HSq := hide (hs64 q.1 (by simp))
              simp only [List.map_cons, List.map_nil] at hw1
              rw [ty.two_pair] at hw1
              have H1 := hide hw1
              obtain ⟨bF, oF, rfl, hbF, hp⟩ := hr2.at_ (fcs_at (l := [p, q]) (k := 0) rfl).2.2.1
              obtain ⟨bG, oG, eG, hbG, hq⟩ := hr2.at_ (fcs_at (l := [p, q]) (k := 1) rfl).2.2.1
              injection eG with eG
              injection eG with e1 e2 e3
              subst e1
              subst e2
              have p2 : w2.cell? ⟨bF, oF + 2, none⟩ = some (.int .u64 (p.1.n : Int)) := hp
              have q2 : w2.cell? ⟨bF, oF + 4 + 2, none⟩ = some (.int .u64 (q.1.n : Int)) := hq
              clear hw1 hs64 hwt hK hh2 e3 hp hq
              by_cases h3 : 3 < p.1.n
              · have HX1 := hide (show ty.one (x :: r) = none by rw [H1.out, if_neg (fun h => by have := h.1; unfold ty.May at this; omega)])
                have h3' : decide ((3 : Int) < (p.1.n : Int)) = true := decide_eq_true (by omega)
                go_wp2_with fail
                refine bodyPost_ret (box_results1 rfl _ ((HBX2.out.set 0 _).set 1 _) rfl Try.underlying25 rfl rfl) rfl ?_
                exact ⟨(HL2.out.setCell (Nat.le_refl _) _).setCell (Nat.le_refl _) _, .inl ⟨HX1.out, 0, 0, rfl⟩⟩
              · have h3' : decide ((3 : Int) < (p.1.n : Int)) = false := decide_eq_false (by omega)
                by_cases h4 : 1073741824 < q.1.n
                · have HX1 := hide (show ty.one (x :: r) = none by rw [H1.out, if_neg (fun h => by have := h.1; unfold ty.May at this; omega)])
                  have h4' : decide ((1073741824 : Int) < (q.1.n : Int)) = true := decide_eq_true (by omega)
                  go_wp2_with fail
                  refine bodyPost_ret (box_results1 rfl _ ((HBX2.out.set 0 _).set 1 _) rfl Try.underlying25 rfl rfl) rfl ?_
                  exact ⟨(HL2.out.setCell (Nat.le_refl _) _).setCell (Nat.le_refl _) _, .inl ⟨HX1.out, 0, 0, rfl⟩⟩
                · have h4' : decide ((1073741824 : Int) < (q.1.n : Int)) = false := decide_eq_false (by omega)
                  have hop : IntKind.i64.wrap (p.1.n : Int) = p.1.n := by rw [IntKind.wrap_i64]; omega
                  have hid : IntKind.i64.wrap (q.1.n : Int) = q.1.n := by rw [IntKind.wrap_i64]; omega
                  obtain ⟨V, hV⟩ : ∃ V, w2.drew = V := ⟨_, rfl⟩
                  have bxV : Box V w.heap.size #[.int .i64 0, .int .i64 0] 25 := by rw [← hV]; exact HBX2.out.drew
                  have HLV := hide (show Le w V by rw [← hV]; exact HL2.out.drew)
                  have p3 : ∀ W', Below w2.heap.size V W' → W'.cell? ⟨bF, oF + 2, none⟩ = some (.int .u64 (p.1.n : Int)) := fun W' h => (h.cell (p := ⟨bF, oF + 2, none⟩) hbF).trans (by rw [← hV]; exact p2)
                  have q3 : ∀ W', Below w2.heap.size V W' → W'.cell? ⟨bF, oF + 4 + 2, none⟩ = some (.int .u64 (q.1.n : Int)) := fun W' h => (h.cell (p := ⟨bF, oF + 4 + 2, none⟩) hbF).trans (by rw [← hV]; exact q2)
                  have hzV : V.heap.size = w2.heap.size := by rw [← hV]; rfl
                  have HBV := hide bxV
                  have HV := hide hV
                  clear hV bxV
                  go_wp2_with fail
                  clear p2 q2 m0 m1 q0 q1
                  refine region_pib (B := w2.heap.size) [(0, true), (1, true), (2, true), (3, true), (4, true), (5, true), (6, true), (7, true), (8, true), (9, true), (10, true), (11, false), (12, false)] (by kernel_rfl) (by kernel_rfl) ?_
                  simp only [opsPi, List.filterMap_cons, List.filterMap_nil, List.getElem?_toArray, List.getElem?_cons_zero, List.getElem?_cons_succ, Option.map_some]
                  rw [HV.out]
                  repeat (first | (refine pib_take (v := _) rfl (fun W hW => by go_simp <;> exact rfl) ?_; simp only [Act.put, List.setIfInBounds_toArray, List.set_cons_zero, List.set_cons_succ]) | (refine pib_skip rfl ?_; simp only [Act.put, List.setIfInBounds_toArray, List.set_cons_zero, List.set_cons_succ]))
                  refine pib_run ?_
                  go_wp2_with fail
                  refine ⟨(Below.refl _ _).alloc (by omega) _, ?_⟩
                  clear p3 q3
                  obtain ⟨Z, hZ⟩ : ∃ Z, V.alloc (.cells #[.int .i64 0, .int .i64 0] 25) = Z := ⟨_, rfl⟩
                  have bz : Box Z w2.heap.size #[.int .i64 0, .int .i64 0] 25 := by rw [← hZ, ← hzV]; exact box_new _ _ _
                  have HBVZ := hide (show Box Z w.heap.size #[.int .i64 0, .int .i64 0] 25 by rw [← hZ]; exact HBV.out.alloc _)
                  have HLZ := hide (show Le w Z by rw [← hZ]; exact HLV.out.alloc (by omega) _)
                  rw [hZ]
                  have z0 := bz.cell 0 (.int .i64 0) rfl
                  have z1 := bz.cell 1 (.int .i64 0) rfl
                  have z2 := bz.frozen 0
                  have z3 := bz.frozen 1
                  have HBZ := hide bz
                  clear hZ bz
                  refine pib_run ?_
                  go_wp2_with fail
                  refine ⟨(below_self _ 0 _ _).trans (below_self _ 1 _ _), ?_⟩
                  refine pib_done ?_
                  obtain ⟨X, hX⟩ : ∃ X, ((Z.setCell ⟨w2.heap.size, 0, none⟩ (.int .i64 (p.1.n : Int))).setCell ⟨w2.heap.size, 1, none⟩ (.int .i64 (q.1.n : Int))) = X := ⟨_, rfl⟩
                  rw [hX]
                  have bxX : Box X w2.heap.size #[.int .i64 (p.1.n : Int), .int .i64 (q.1.n : Int)] 25 := by rw [← hX]; exact (HBZ.out.set 0 _).set 1 _
                  have hwne : w2.heap.size ≠ w.heap.size := by have := HBX2.out.lt; omega
                  have bxR : Box X w.heap.size #[.int .i64 0, .int .i64 0] 25 := by rw [← hX]; exact (HBVZ.out.other hwne _).other hwne _
                  have HLX := hide (show Le w X by rw [← hX]; exact (HLZ.out.setCell hz2 _).setCell hz2 _)
                  have x0 := bxX.cell 0 (.int .i64 (p.1.n : Int)) rfl
                  have x1 := bxX.cell 1 (.int .i64 (q.1.n : Int)) rfl
                  have HBX3 := hide bxX
                  have HBR3 := hide bxR
                  clear hX bxX bxR z0 z1 z2 z3
                  go_wp2_with fail
                  refine (reftxput_any X (p.1.n : Int) (q.1.n : Int)).mono ?_
                  rintro e w3 ⟨v3, rfl, hown3, hb3⟩
                  have HL3 := hide (show Le w w3 from HLX.out.trans hb3)
                  have hz3 := HL3.out.size
                  obtain ⟨V2, hV2⟩ : ∃ V2, w3.drew = V2 := ⟨_, rfl⟩
                  have HL4 := hide (show Le w V2 by rw [← hV2]; exact HL3.out.drew)
                  have bx4 : Box V2 w2.heap.size #[.int .i64 (p.1.n : Int), .int .i64 (q.1.n : Int)] 25 := by rw [← hV2]; exact (HBX3.out.below hb3 HBX3.out.lt).drew
                  have br4 : Box V2 w.heap.size #[.int .i64 0, .int .i64 0] 25 := by rw [← hV2]; exact (HBR3.out.below hb3 HBR3.out.lt).drew
                  have y0 := bx4.cell 0 (.int .i64 (p.1.n : Int)) rfl
                  have y1 := bx4.cell 1 (.int .i64 (q.1.n : Int)) rfl
                  have u0 := br4.cell 0 (.int .i64 0) rfl
                  have u1 := br4.cell 1 (.int .i64 0) rfl
                  have u2 := br4.frozen 0
                  have u3 := br4.frozen 1
                  have HBX4 := hide bx4
                  have HBR4 := hide br4
                  have HV2 := hide hV2
                  clear bx4 br4 hb3 x0 x1 hV2
                  by_cases hm : ty.May (p.1.n : Int) (q.1.n : Int)
                  · rw [ty.put_may hm] at hown3 ⊢
                    have hs := ty.may_s64 hm
                    simp only [Int.toNat_natCast] at hown3 hs ⊢
                    have hlen : (ty.lay p.1.n q.1.n).length ≤ 45 := by
                      have := ty.body_len hs.1 hs.2
                      have h2 := ty.sealed_len p.1.n q.1.n
                      show (ty.sealed p.1.n q.1.n).length + 1 ≤ 45
                      omega
                    have HD8 := hide (ty.lay8 hs.1 hs.2)
                    obtain ⟨D, hD⟩ : ∃ D, ty.lay p.1.n q.1.n = D := ⟨_, rfl⟩
                    have H1' := H1.out
                    rw [hD] at hown3 hlen H1' HD8
                    obtain ⟨m, hm'⟩ : ∃ m, D.length = m := ⟨_, rfl⟩
                    rw [hm'] at hown3 hlen
                    obtain ⟨A3, c3, rfl, -, -⟩ := own_form hown3
                    have hr3 : Row V2 V2.heap.size A3 (u8s D) := by rw [← HV2.out]; exact (Row.of_own hown3).drew
                    have hrb : Row V2 V2.heap.size (some ⟨bA, oA, none⟩) (u8s ((x :: r).take (1 + x))) := by rw [← u8s_take]; exact (hr.le HL4.out).take _
                    have htl : ((x :: r).take (1 + x)).length = 1 + x := by rw [List.length_take, HL.out]; omega
                    have T8 := take8 H8.out (1 + x)
                    have g1 : ∀ W, Le V2 W → (convert 41 9 (.slice A3 m c3)).run Try.prog W = .ok (.string (str D)) W := fun W hW => conv8 W V2.heap.size A3 m c3 D hm' HD8.out (hW.row hr3 (Nat.le_refl _))
                    have g2 : ∀ W, Le V2 W → (convert 41 9 (.slice (some ⟨bA, oA, none⟩) (1 + x) c)).run Try.prog W = .ok (.string (str ((x :: r).take (1 + x)))) W := fun W hW => conv8 W V2.heap.size _ (1 + x) c _ htl T8 (hW.row hrb (Nat.le_refl _))
                    have HX1 := hide H1'
                    have HM2 := hide hm
                    obtain ⟨TT, hTT⟩ : ∃ TT, (x :: r).take (1 + x) = TT := ⟨_, rfl⟩
                    rw [hTT] at g2 T8 HX1
                    by_cases hd : D = TT
                    · have hS : ((str D).toList == (str TT).toList) = true := by rw [str_beq HD8.out T8]; exact decide_eq_true hd
                      have HDD := hide hd
                      clear hd hm hown3 hD H1' hm' H1 hr3 hrb htl T8 hs hTT
                      go_wp2_with fail
                      refine region_pi [(0, true), (1, true), (2, true), (3, true), (4, true), (5, true), (6, true), (7, true), (8, true), (9, true), (10, true)] (by kernel_rfl) (by kernel_rfl) ?_
                      simp only [opsPi, List.filterMap_cons, List.filterMap_nil, List.getElem?_toArray, List.getElem?_cons_zero, List.getElem?_cons_succ, Option.map_some]
                      rw [HV2.out]
                      repeat (first | (refine pi_take (v := _) rfl (fun W hW => by go_simp <;> exact rfl) ?_; simp only [Act.put, List.setIfInBounds_toArray, List.set_cons_zero, List.set_cons_succ]) | (refine pi_skip rfl ?_; simp only [Act.put, List.setIfInBounds_toArray, List.set_cons_zero, List.set_cons_succ]))
                      refine pi_take (v := .slice (some ⟨bA, oA, none⟩) (1 + x) c) rfl (fun W hW => by go_simp; rw [if_pos ⟨by omega, by omega⟩, show (1 + (x : Int)).toNat = 1 + x by omega]) ?_
                      simp only [Act.put, List.setIfInBounds_toArray, List.set_cons_zero, List.set_cons_succ]
                      repeat (first | (refine pi_take (v := _) rfl (fun W hW => by go_simp <;> exact rfl) ?_; simp only [Act.put, List.setIfInBounds_toArray, List.set_cons_zero, List.set_cons_succ]) | (refine pi_skip rfl ?_; simp only [Act.put, List.setIfInBounds_toArray, List.set_cons_zero, List.set_cons_succ]))
                      refine pi_done ?_
                      clear g1 g2
                      go_wp2_with fail
                      refine bodyPost_ret (box_results1 rfl _ ((HBR4.out.set 0 _).set 1 _) rfl Try.underlying25 rfl rfl) rfl ?_
                      exact ⟨(HL4.out.setCell (Nat.le_refl _) _).setCell (Nat.le_refl _) _, .inr ⟨_, _, 1 + x, by rw [HX1.out, if_pos ⟨HM2.out, HDD.out⟩], rfl⟩⟩
                    · have hS : ((str D).toList == (str TT).toList) = false := by rw [str_beq HD8.out T8]; exact decide_eq_false hd
                      have HDD := hide hd
                      clear hd hm hown3 hD H1' hm' H1 hr3 hrb htl T8 hs hTT
                      go_wp2_with fail
                      refine region_pi [(0, true), (1, true), (2, true), (3, true), (4, true), (5, true), (6, true), (7, true), (8, true), (9, true), (10, true)] (by kernel_rfl) (by kernel_rfl) ?_
                      simp only [opsPi, List.filterMap_cons, List.filterMap_nil, List.getElem?_toArray, List.getElem?_cons_zero, List.getElem?_cons_succ, Option.map_some]
                      rw [HV2.out]
                      repeat (first | (refine pi_take (v := _) rfl (fun W hW => by go_simp <;> exact rfl) ?_; simp only [Act.put, List.setIfInBounds_toArray, List.set_cons_zero, List.set_cons_succ]) | (refine pi_skip rfl ?_; simp only [Act.put, List.setIfInBounds_toArray, List.set_cons_zero, List.set_cons_succ]))
                      refine pi_take (v := .slice (some ⟨bA, oA, none⟩) (1 + x) c) rfl (fun W hW => by go_simp; rw [if_pos ⟨by omega, by omega⟩, show (1 + (x : Int)).toNat = 1 + x by omega]) ?_
                      simp only [Act.put, List.setIfInBounds_toArray, List.set_cons_zero, List.set_cons_succ]
                      repeat (first | (refine pi_take (v := _) rfl (fun W hW => by go_simp <;> exact rfl) ?_; simp only [Act.put, List.setIfInBounds_toArray, List.set_cons_zero, List.set_cons_succ]) | (refine pi_skip rfl ?_; simp only [Act.put, List.setIfInBounds_toArray, List.set_cons_zero, List.set_cons_succ]))
                      refine pi_done ?_
                      clear g1 g2
                      go_wp2_with fail
                      refine bodyPost_ret (box_results1 rfl _ ((HBR4.out.set 0 _).set 1 _) rfl Try.underlying25 rfl rfl) rfl ?_
                      exact ⟨(HL4.out.setCell (Nat.le_refl _) _).setCell (Nat.le_refl _) _, .inl ⟨by rw [HX1.out, if_neg (fun h => HDD.out h.2)], 0, 0, rfl⟩⟩
                  · rw [ty.put_not hm] at hown3 ⊢
                    obtain ⟨A3, c3, rfl, -, -⟩ := own_form hown3
                    have HX1 := hide (show ty.one (x :: r) = none by rw [H1.out, if_neg (fun h => hm h.1)])
                    clear hm hown3 H1
                    go_wp2_with fail
                    refine region_pi [(0, true), (1, true), (2, true), (3, true), (4, true), (5, true), (6, true), (7, true), (8, true), (9, true), (10, true)] (by kernel_rfl) (by kernel_rfl) ?_
                    simp only [opsPi, List.filterMap_cons, List.filterMap_nil, List.getElem?_toArray, List.getElem?_cons_zero, List.getElem?_cons_succ, Option.map_some]
                    rw [HV2.out]
                    repeat (first | (refine pi_take (v := _) rfl (fun W hW => by go_simp <;> exact rfl) ?_; simp only [Act.put, List.setIfInBounds_toArray, List.set_cons_zero, List.set_cons_succ]) | (refine pi_skip rfl ?_; simp only [Act.put, List.setIfInBounds_toArray, List.set_cons_zero, List.set_cons_succ]))
                    refine pi_done ?_
                    go_wp2_with fail
                    refine bodyPost_ret (box_results1 rfl _ ((HBR4.out.set 0 _).set 1 _) rfl Try.underlying25 rfl rfl) rfl ?_
                    exact ⟨(HL4.out.setCell (Nat.le_refl _) _).setCell (Nat.le_refl _) _, .inl ⟨HX1.out, 0, 0, rfl⟩⟩
            · have hK2' : decide (K = 2) = false := decide_eq_false hK2
              rw [ty.two_len (by simpa using (fun e => hK2 (hK.symm.trans e)))] at hw1
              have H1 := hide hw1
              clear hw1 hwt
              go_wp2_with fail
              refine bodyPost_ret (box_results1 rfl _ ((HBX2.out.set 0 _).set 1 _) rfl Try.underlying25 rfl rfl) rfl ?_
              exact ⟨(HL2.out.setCell (Nat.le_refl _) _).setCell (Nat.le_refl _) _, .inl ⟨H1.out, 0, 0, rfl⟩⟩
#print axioms refone_any
end Go.Proofs.Ytocpeiocgppkfaa
