/-
  The document's answer on columns and rows, walked.
-/
import Derived.Test.YtjedpjfmlaganaaDoorSchA
import Derived.Test.YtjedpjfmlaganaaDoorRowV
import Derived.Deep.QuietTactic
import Derived.BigQuiet
namespace Go.Proofs.YtjedpjfmlaganaaDoor
set_option maxRecDepth 100000
open Go.RowKit
set_option linter.unusedVariables false

set_option maxRecDepth 100000 in
set_option maxHeartbeats 2000000 in
theorem refschema_any (w : World) (A : Option Addr) (n c0 : Nat) (l : List va.Col) (hl : l.length = n) (hn : n ≤ 9223372036854775807) (hs : ∀ c ∈ l, c.name.size ≤ 9223372036854775807) (hr : Row w w.heap.size A (ccs l)) :
    Calls Tryd.prog 6 #[.slice A n c0] w fun e w' => e = .returned (.int .i64 (va.schemaV l)) ∧ Below w.heap.size w w' := by
  have HL := hide hl
  have HS := hide hs
  have HR := hide hr
  obtain ⟨R, hR⟩ : ∃ R, va.schemaV l = R := ⟨_, rfl⟩
  rw [hR]
  obtain ⟨ans, hans⟩ : ∃ a, va.goodV [] l = a := ⟨_, rfl⟩
  have HV := hide (show R = if 1 ≤ n ∧ n ≤ 6 ∧ ans = true then 0 else 20 by rw [← hR]; unfold va.schemaV; rw [hl, hans])
  have HA := hide (show va.goodV (l.take 0) (l.drop 0) = ans by rw [List.take_zero, List.drop_zero]; exact hans)
  clear hl hs hr hR hans
  go_enter Tryd.func6, Tryd.ntmps6
  by_cases h1 : n < 1
  · have d1 : decide ((n : Int) < 1) = true := decide_eq_true (by omega)
    have HF := hide (show R = 20 by rw [HV.out, if_neg]; omega)
    go_wp2_with fail
    go_ret
    rw [HF.out]
    exact ⟨rfl, Below.refl _ _⟩
  · have d1 : decide ((n : Int) < 1) = false := decide_eq_false (by omega)
    by_cases h2 : 6 < n
    · have d2 : decide (6 < (n : Int)) = true := decide_eq_true (by omega)
      have HF := hide (show R = 20 by rw [HV.out, if_neg]; omega)
      go_wp2_with fail
      go_ret
      rw [HF.out]
      exact ⟨rfl, Below.refl _ _⟩
    · have d2 : decide (6 < (n : Int)) = false := decide_eq_false (by omega)
      have HBAD := hide (show ans = false → R = 20 from fun h => by rw [HV.out, if_neg]; rw [h]; simp)
      have HGOOD := hide (show ans = true → R = 0 from fun h => by rw [HV.out, if_pos ⟨by omega, by omega, h⟩])
      clear HV
      go_wp2_with fail
      go_loopw [3] (fun i wr => ∃ j : Nat, i = .int .i64 j ∧ j ≤ n ∧ Hid (va.goodV (l.take j) (l.drop j) = ans) ∧ Hid (Le w wr)) (fun i _ => n - (intOf i).toNat)
      case atStart => exact ⟨0, rfl, Nat.zero_le _, HA, hide (Below.refl _ _)⟩
      case round =>
        obtain ⟨j, rfl, hj, HG, HB⟩ := hrel
        by_cases hp : j < n
        · obtain ⟨c, hc⟩ : ∃ c, l[j]? = some c := ⟨_, List.getElem?_eq_getElem (by rw [HL.out]; exact hp)⟩
          obtain ⟨bA, oA, rfl, hbA, r0, r1⟩ := row_at2 HR.out hc
          have e0 : wr.cell? ⟨bA, oA + j * 2, none⟩ = some (.string c.name) := (HB.out.cell (p := ⟨bA, oA + j * 2, none⟩) hbA).trans r0
          have e1 : wr.cell? ⟨bA, oA + j * 2 + 1, none⟩ = some (.int .i64 c.kind) := (HB.out.cell (p := ⟨bA, oA + j * 2 + 1, none⟩) hbA).trans r1
          have HC := hide hc
          have HSZ := hide (HS.out c (List.mem_of_getElem? hc))
          have HST := hide (show (va.nameV c.name && (va.kindV c.kind && (!va.seenV (l.take j) c.name && va.goodV (l.take (j + 1)) (l.drop (j + 1))))) = ans by rw [← va.good_step hc]; exact HG.out)
          have H0 := hide r0
          have H1 := hide r1
          clear r0 r1 hc HG
          go_wp2_with fail
          refine (refname_any wr c.name HSZ.out).mono ?_
          rintro e w1 ⟨rfl, hb1⟩
          have HB1 := hide (show Le w w1 from HB.out.trans hb1)
          have e0 : w1.cell? ⟨bA, oA + j * 2, none⟩ = some (.string c.name) := (HB1.out.cell (p := ⟨bA, oA + j * 2, none⟩) hbA).trans H0.out
          have e1 : w1.cell? ⟨bA, oA + j * 2 + 1, none⟩ = some (.int .i64 c.kind) := (HB1.out.cell (p := ⟨bA, oA + j * 2 + 1, none⟩) hbA).trans H1.out
          clear hb1
          obtain ⟨nv, hnv⟩ : ∃ b, va.nameV c.name = b := ⟨_, rfl⟩
          rw [hnv] at HST ⊢
          obtain ⟨k1, hk1⟩ : ∃ b, decide (c.kind < 1) = b := ⟨_, rfl⟩
          obtain ⟨k2, hk2⟩ : ∃ b, decide (7 < c.kind) = b := ⟨_, rfl⟩
          have hkv : va.kindV c.kind = (!k1 && !k2) := by
            unfold va.kindV
            rw [← hk1, ← hk2, Bool.eq_iff_iff]
            simp
          rw [hkv] at HST
          clear hnv hkv
          cases nv
          · have HF := hide (HBAD.out HST.out.symm)
            go_wp2_with fail
            go_ret
            rw [HF.out]
            exact ⟨rfl, HB1.out⟩
          · cases k1
            · cases k2
              · go_wp2_with fail
                obtain ⟨sn, hsn⟩ : ∃ b, va.seenV (l.take j) c.name = b := ⟨_, rfl⟩
                rw [hsn] at HST
                have HS0 := hide (show va.seenV ((l.take j).drop 0) c.name = sn by rw [List.drop_zero]; exact hsn)
                clear hsn
                go_loopw [5] (fun i wx => ∃ k : Nat, i = .int .i64 k ∧ k ≤ j ∧ Hid (va.seenV ((l.take j).drop k) c.name = sn) ∧ Hid (Le w wx)) (fun i _ => j - (intOf i).toNat)
                case atStart => exact ⟨0, rfl, Nat.zero_le _, HS0, HB1⟩
                case round =>
                  obtain ⟨k, rfl, hk, HSN, HBX⟩ := hrel
                  clear e0 e1
                  have f0 : wr.cell? ⟨bA, oA + j * 2, none⟩ = some (.string c.name) := (HBX.out.cell (p := ⟨bA, oA + j * 2, none⟩) hbA).trans H0.out
                  by_cases hkj : k < j
                  · obtain ⟨d, hd⟩ : ∃ d, l[k]? = some d := ⟨_, List.getElem?_eq_getElem (by rw [HL.out]; omega)⟩
                    obtain ⟨bB, oB, eB, hbB, s0, s1⟩ := row_at2 HR.out hd
                    simp only [Option.some.injEq, Addr.mk.injEq, and_true] at eB
                    obtain ⟨rfl, rfl⟩ := eB
                    have f1 : wr.cell? ⟨bA, oA + k * 2, none⟩ = some (.string d.name) := (HBX.out.cell (p := ⟨bA, oA + k * 2, none⟩) hbA).trans s0
                    have HSK := hide (show (va.eqS d.name c.name || va.seenV ((l.take j).drop (k + 1)) c.name) = sn by
                      rw [← va.seen_step (c := d) (by rw [List.getElem?_take, if_pos hkj]; exact hd)]; exact HSN.out)
                    have hnj : (j : Int) < n := by omega
                    have hnk : (k : Int) < n := by omega
                    clear s0 s1 hd HSN
                    obtain ⟨q, hq⟩ : ∃ q, va.eqS d.name c.name = q := ⟨_, rfl⟩
                    rw [hq] at HSK
                    have hq2 : (d.name.toList == c.name.toList) = q := hq
                    clear hq
                    go_wp2
                    go_quiet (fail)
                    have HBN := hide (show Le w (wr.drewN nq) from below_drewN HBX.out nq)
                    cases q
                    · go_wp2_with fail
                      exact ⟨⟨k + 1, by go_num, by omega, hide (by have h := HSK.out; rw [Bool.false_or] at h; exact h), HBN⟩, by simp [intOf]; omega⟩
                    · have HF := hide (HBAD.out (by have h := HST.out; have h2 := HSK.out; rw [Bool.true_or] at h2; rw [← h, ← h2]; rfl))
                      go_wp2_with fail
                      go_ret
                      rw [HF.out]
                      exact ⟨rfl, HBN.out⟩
                  · obtain rfl : k = j := by omega
                    have hsn : sn = false := by rw [← HSN.out, List.drop_eq_nil_of_le (by rw [List.length_take]; exact Nat.min_le_left _ _)]; rfl
                    have HST2 := hide (show va.goodV (l.take (k + 1)) (l.drop (k + 1)) = ans by rw [← HST.out, hsn]; rfl)
                    clear hsn f0
                    go_wp2_with fail
                    exact ⟨⟨k + 1, by go_num, by omega, HST2, HBX⟩, by simp [intOf]; omega⟩
              · have HF := hide (HBAD.out HST.out.symm)
                go_wp2_with fail
                go_ret
                rw [HF.out]
                exact ⟨rfl, HB1.out⟩
            · have HF := hide (HBAD.out HST.out.symm)
              go_wp2_with fail
              go_ret
              rw [HF.out]
              exact ⟨rfl, HB1.out⟩
        · obtain rfl : j = n := by omega
          have ha : ans = true := by rw [← HG.out, List.drop_eq_nil_of_le (by rw [HL.out]; exact Nat.le_refl _)]; rfl
          have HF := hide (HGOOD.out ha)
          clear ha
          go_wp2_with fail
          go_ret
          rw [HF.out]
          exact ⟨rfl, HB.out⟩
#print axioms refschema_any

set_option maxRecDepth 100000 in
set_option maxHeartbeats 2000000 in
theorem refrow_any (w : World) (A : Option Addr) (n c0 : Nat) (l : List va.Col) (hl : l.length = n) (hn : n ≤ 9223372036854775807) (hr : Row w w.heap.size A (ccs l))
    (A' : Option Addr) (m c1 : Nat) (r : List va.Val) (hl' : r.length = m) (hm : m ≤ 9223372036854775807) (hs : ∀ v ∈ r, v.s.size ≤ 9223372036854775807) (hr' : Row w w.heap.size A' (vcs r)) (hT : Tabs8 w) :
    Calls Tryd.prog 7 #[.slice A n c0, .slice A' m c1] w fun e w' => e = .returned (.int .i64 (va.rowV l r)) ∧ Below w.heap.size w w' := by
  have HL := hide hl
  have HL' := hide hl'
  have HS := hide hs
  have HR := hide hr
  have HR' := hide hr'
  have HT := hide hT
  obtain ⟨R, hR⟩ : ∃ R, va.rowV l r = R := ⟨_, rfl⟩
  rw [hR]
  obtain ⟨ans, hans⟩ : ∃ a, va.fitsV l r = a := ⟨_, rfl⟩
  have HV := hide (show R = if n = m ∧ ans = true then 0 else 21 by rw [← hR]; unfold va.rowV; rw [hl, hl', hans])
  have HA := hide (show va.fitsV (l.drop 0) (r.drop 0) = ans by rw [List.drop_zero, List.drop_zero]; exact hans)
  clear hl hl' hs hr hr' hR hans hT
  go_enter Tryd.func7, Tryd.ntmps7
  by_cases hnm : n = m
  · subst hnm
    have hnn : ((n : Int) != n) = false := by simp
    have HBAD := hide (show ans = false → R = 21 from fun h => by rw [HV.out, if_neg]; rw [h]; simp)
    have HGOOD := hide (show ans = true → R = 0 from fun h => by rw [HV.out, if_pos ⟨rfl, h⟩])
    clear HV
    go_wp2_with fail
    go_loopw [5] (fun i wr => ∃ j : Nat, i = .int .i64 j ∧ j ≤ n ∧ Hid (va.fitsV (l.drop j) (r.drop j) = ans) ∧ Hid (Le w wr)) (fun i _ => n - (intOf i).toNat)
    case atStart => exact ⟨0, rfl, Nat.zero_le _, HA, hide (Below.refl _ _)⟩
    case round =>
      obtain ⟨j, rfl, hj, HG, HB⟩ := hrel
      by_cases hp : j < n
      · obtain ⟨c, hc⟩ : ∃ c, l[j]? = some c := ⟨_, List.getElem?_eq_getElem (by rw [HL.out]; exact hp)⟩
        obtain ⟨v, hv⟩ : ∃ v, r[j]? = some v := ⟨_, List.getElem?_eq_getElem (by rw [HL'.out]; exact hp)⟩
        obtain ⟨bA, oA, rfl, hbA, r0, r1⟩ := row_at2 HR.out hc
        obtain ⟨bB, oB, rfl, hbB, s0, s1, s2⟩ := row_at3 HR'.out hv
        have HSZ := hide (HS.out v (List.mem_of_getElem? hv))
        have HST := hide (show (va.mayV c.kind v && va.fitsV (l.drop (j + 1)) (r.drop (j + 1))) = ans by rw [← va.fits_step hc hv]; exact HG.out)
        have hnj : (j : Int) < n := by omega
        obtain ⟨V, hV⟩ : ∃ V, wr.drew = V := ⟨_, rfl⟩
        have HLV := hide (show Le w V by rw [← hV]; exact HB.out.drew)
        have e1 : ∀ W, Le V W → W.cell? ⟨bA, oA + j * 2 + 1, none⟩ = some (.int .i64 c.kind) := fun W h => ((HLV.out.trans h).cell (p := ⟨bA, oA + j * 2 + 1, none⟩) hbA).trans r1
        have e2 : ∀ W, Le V W → W.cell? ⟨bB, oB + j * 3, none⟩ = some (.bool v.nul) := fun W h => ((HLV.out.trans h).cell (p := ⟨bB, oB + j * 3, none⟩) hbB).trans s0
        have e3 : ∀ W, Le V W → W.cell? ⟨bB, oB + j * 3 + 1, none⟩ = some (.int .i64 v.n) := fun W h => ((HLV.out.trans h).cell (p := ⟨bB, oB + j * 3 + 1, none⟩) hbB).trans s1
        have e4 : ∀ W, Le V W → W.cell? ⟨bB, oB + j * 3 + 2, none⟩ = some (.string v.s) := fun W h => ((HLV.out.trans h).cell (p := ⟨bB, oB + j * 3 + 2, none⟩) hbB).trans s2
        have HV := hide hV
        clear r0 r1 s0 s1 s2 hc hv HG hV
        go_wp2_with fail
        refine region_pi [(0, true), (1, true), (2, true), (3, true), (4, true), (5, true), (6, true), (7, true), (8, true), (9, false), (10, true)] (by kernel_rfl) (by kernel_rfl) ?_
        simp only [opsPi, List.filterMap_cons, List.filterMap_nil, List.getElem?_toArray, List.getElem?_cons_zero, List.getElem?_cons_succ, Option.map_some]
        rw [HV.out]
        repeat (first | (refine pi_take (v := _) rfl (fun W hW => by go_simp <;> exact rfl) ?_; simp only [Act.put, List.setIfInBounds_toArray, List.set_cons_zero, List.set_cons_succ]) | (refine pi_skip rfl ?_; simp only [Act.put, List.setIfInBounds_toArray, List.set_cons_zero, List.set_cons_succ]))
        refine pi_run ?_
        go_wp2_with fail
        refine (refvmay_any V c.kind v HSZ.out (HT.out.le HLV.out)).mono ?_
        rintro e V1 ⟨rfl, hb⟩
        have HL1 := hide (show Le w V1 from HLV.out.trans hb)
        go_wp2_with fail
        refine ⟨hb, ?_⟩
        clear hb e1 e2 e3 e4
        repeat (first | (refine pi_take (v := _) rfl (fun W hW => by go_simp <;> exact rfl) ?_; simp only [Act.put, List.setIfInBounds_toArray, List.set_cons_zero, List.set_cons_succ]) | (refine pi_skip rfl ?_; simp only [Act.put, List.setIfInBounds_toArray, List.set_cons_zero, List.set_cons_succ]))
        refine pi_done ?_
        obtain ⟨q, hq⟩ : ∃ q, va.mayV c.kind v = q := ⟨_, rfl⟩
        rw [hq] at HST ⊢
        clear hq
        cases q
        · have HF := hide (HBAD.out (by rw [← HST.out]; rfl))
          go_wp2_with fail
          go_ret
          rw [HF.out]
          exact ⟨rfl, HL1.out⟩
        · have HST2 := hide (show va.fitsV (l.drop (j + 1)) (r.drop (j + 1)) = ans by rw [← HST.out]; rfl)
          go_wp2_with fail
          exact ⟨⟨j + 1, by go_num, by omega, HST2, HL1⟩, by simp [intOf]; omega⟩
      · obtain rfl : j = n := by omega
        have ha : ans = true := by
          rw [← HG.out, List.drop_eq_nil_of_le (by rw [HL.out]; exact Nat.le_refl _)]
          rfl
        have HF := hide (HGOOD.out ha)
        clear ha
        go_wp2_with fail
        go_ret
        rw [HF.out]
        exact ⟨rfl, HB.out⟩
  · have hnn : ((n : Int) != m) = true := by simp; omega
    have HF := hide (show R = 21 by rw [HV.out, if_neg]; exact fun h => hnm h.1)
    go_wp2_with fail
    go_ret
    rw [HF.out]
    exact ⟨rfl, Below.refl _ _⟩
#print axioms refrow_any
end Go.Proofs.YtjedpjfmlaganaaDoor
