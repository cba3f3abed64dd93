/-
  What a list sees, by the document, walked.
-/
import Derived.Test.YtjedpjfmlaganaaVwPut
import Derived.Test.YtjedpjfmlaganaaVwHr
namespace Go.Proofs.Ytjedpjfmlaganaa.vw
open Go.RowKit
set_option linter.unusedVariables false

theorem putK_map (l : List Kd) (x : Kd) : (putK Kd.k l x).map cont = putK Prod.fst (l.map cont) (cont x) := by
  induction l with
  | nil => rfl
  | cons y l ih =>
    show (putK Kd.k (y :: l) x).map cont = putK Prod.fst (cont y :: l.map cont) (cont x)
    unfold putK
    show List.map cont (if ltK y.k x.k then y :: putK Kd.k l x else if eqK y.k x.k then y :: l else x :: y :: l) = if ltK y.k x.k then cont y :: putK Prod.fst (l.map cont) (cont x) else if eqK y.k x.k then cont y :: l.map cont else cont x :: cont y :: l.map cont
    cases ltK y.k x.k
    · cases eqK y.k x.k
      · rfl
      · rfl
    · simp [ih]
theorem fold_map (l m : List Kd) : (l.foldl (putK Kd.k) m).map cont = (l.map cont).foldl (putK Prod.fst) (m.map cont) := by
  induction l generalizing m with
  | nil => rfl
  | cons x l ih => simp only [List.foldl_cons, List.map_cons, ih, putK_map]
theorem fold_firsts (l : List Kd) : Firsts Prod.fst (l.map cont) ((l.foldl (putK Kd.k) []).map cont) := by
  rw [fold_map]
  exact firsts_foldl _
theorem fold_mem {l : List Kd} {x : Kd} (h : x ∈ l.foldl (putK Kd.k) []) : x ∈ l := first_mem (((firsts_foldl (key := Kd.k) l).2 x).1 h)
/-- Whether a list sees that something deleted a row. -/
def byG (H : Int) (ex : List Int) (κ : Ke) (g : Gn) : Bool := eqK g.k κ && has H ex g.who
theorem seen_by (H : Int) (ex : List Int) (gone : List Gn) (x : Kd) : seen H ex gone x = (has H ex x.k.id && !(gone.any (byG H ex x.k))) := by
  unfold seen
  congr 2
  rw [Bool.eq_iff_iff, gone_mem, List.any_eq_true]
  constructor
  · rintro ⟨g, hg, h1, h2⟩
    exact ⟨g, hg, by unfold byG; rw [eqK_iff.2 h2, h1]; rfl⟩
  · rintro ⟨g, hg, h⟩
    unfold byG at h
    rw [Bool.and_eq_true] at h
    exact ⟨g, hg, h.2, eqK_iff.1 h.1⟩
set_option maxRecDepth 100000 in
set_option maxHeartbeats 8000000 in
theorem rof_any (w : World) (H : Int) (A : Option Addr) (n c : Nat) (ex : List Int) (hl : ex.length = n) (hn : n ≤ 1000000000) (hr : Row w w.heap.size A (ints ex))
    (RA : Option Addr) (rn rc : Nat) (rows : List Kd) (hrl : rows.length = rn) (hrn : rn ≤ 120) (hrr : Row w w.heap.size RA (kcs rows))
    (GA : Option Addr) (gn gc : Nat) (gone : List Gn) (hgl : gone.length = gn) (hgn : gn ≤ 1000) (hgr : Row w w.heap.size GA (gcs gone)) :
    Calls Try.prog 20 #[.agg #[.int .i64 H, .slice A n c], .slice RA rn rc, .slice GA gn gc] w fun e w' => ∃ (g' n' c' : Nat), e = .returned (.slice (some ⟨g', 0, none⟩) n' c') ∧ n' = ((rows.filter (seen H ex gone)).foldl (putK Kd.k) []).length ∧ n' ≤ 120 ∧ w'.ownsRow w.heap.size 47 4 (.slice (some ⟨g', 0, none⟩) n' c') n' (kcs ((rows.filter (seen H ex gone)).foldl (putK Kd.k) [])) ∧ Le w w' := by
  obtain ⟨X1, hX1, b1, hl1⟩ : ∃ X, w.alloc (.cells #[.int .i64 H, .slice A n c] 38) = X ∧ Box X w.heap.size #[.int .i64 H, .slice A n c] 38 ∧ Le w X := ⟨_, rfl, box_new _ _ _, (Below.refl _ _).alloc (Nat.le_refl _) _⟩
  obtain ⟨X, hX, ho2, hl2⟩ : ∃ X, X1.alloc (.cells #[] 47) = X ∧ X.ownsRow w.heap.size 47 4 (.slice (some ⟨X1.heap.size, 0, none⟩) 0 0) 0 [] ∧ Le X1 X := ⟨_, rfl, own_zero X1 _ hl1.size _ _, (Below.refl _ _).alloc (Nat.le_refl _) _⟩
  have hzz : X1.heap.size = w.heap.size + 1 := by rw [← hX1]; simp
  rw [hzz] at ho2
  have HZZ := hide hzz
  have HX1 := hide hX1
  have HX := hide hX
  have HLX := hide (hl1.trans hl2)
  have BX := hide (b1.below hl2 b1.lt)
  have HOX := hide ho2
  have hha := hide (fun (W : World) (h : Le w W) (id : Int) => refhas_any W H A n c ex id hl hn ((h.row hr (Nat.le_refl _)).more h.size))
  have HRL := hide hrl
  have HRR := hide hrr
  have HGL := hide hgl
  have HGR := hide hgr
  clear hX1 hX b1 hl1 hl2 ho2 hzz hl hr hrl hrr hgl hgr
  go_enter Try.func20, Try.ntmps20
  go_upto_region 1 with fail
  rw [HX1.out]
  go_upto_region 2 with fail
  rw [HX.out, HZZ.out]
  go_wp2_with fail
  go_loopw [7, 8] (fun s t wr => ∃ (i g' k' c' : Nat) (L : List Kd), s = .slice (some ⟨g', 0, none⟩) k' c' ∧ t = .int .i64 i ∧ i ≤ rn ∧ k' ≤ i ∧ Hid (L = ((rows.take i).filter (seen H ex gone)).foldl (putK Kd.k) []) ∧ Hid (k' = L.length) ∧ Hid (wr.ownsRow w.heap.size 47 4 (.slice (some ⟨g', 0, none⟩) k' c') k' (kcs L)) ∧ Hid (Le X wr)) (fun _ t _ => rn - (intOf t).toNat)
  case atStart => exact ⟨0, _, 0, 0, [], rfl, rfl, Nat.zero_le _, Nat.le_refl _, hide rfl, hide rfl, HOX, hide (Le.refl _)⟩
  case round =>
    obtain ⟨i, g1, k1, c1, L, rfl, rfl, hi, hki, HLL, HKL, HO, HLr⟩ := hrel
    by_cases hir : i < rn
    · obtain ⟨u, hu⟩ : ∃ u, rows[i]? = some u := ⟨_, List.getElem?_eq_getElem (by rw [HRL.out]; exact hir)⟩
      obtain ⟨bA, oA, rfl, hbA, r0, r1, r2, r3⟩ := row_kd HRR.out hu
      have hiI : (i : Int) < rn := by omega
      have HRO := hide (And.intro r0 (And.intro r1 (And.intro r2 r3)))
      have hss := seen_step (p := seen H ex gone) hu
      rw [seen_by] at hss
      have HSS := hide hss
      obtain ⟨hv, hhv⟩ : ∃ b, has H ex u.k.id = b := ⟨_, rfl⟩
      have HHV := hide hhv
      clear r0 r1 r2 r3 hu hss hhv
      go_upto_region 5 with fail
      obtain ⟨V, hV⟩ : ∃ V, wr.drew = V := ⟨_, rfl⟩
      have HLV := hide (show Le X V by rw [← hV]; exact HLr.out.drew)
      have HLW := hide (HLX.out.trans HLV.out)
      have HOV := hide (own_below HO.out (show Le wr V by rw [← hV]; exact (Le.refl _).drew))
      have HV := hide hV
      have e0 : ∀ W, Le V W → W.cell? ⟨bA, oA + i * 4, none⟩ = some (.int .i64 u.k.id) := fun W h => ((HLW.out.trans h).cell (p := ⟨bA, oA + i * 4, none⟩) hbA).trans HRO.out.1
      have b0 : ∀ W, Le V W → W.cell? ⟨w.heap.size, 0, none⟩ = some (.int .i64 H) := fun W h => BX.out.later 0 _ rfl W (HLV.out.trans h)
      have b1 : ∀ W, Le V W → W.cell? ⟨w.heap.size, 1, none⟩ = some (.slice A n c) := fun W h => BX.out.later 1 _ rfl W (HLV.out.trans h)
      have hh := hide (hha.out V HLW.out u.k.id)
      rw [HHV.out] at hh
      clear hV
      refine region_pi [(0, true), (1, true), (2, true), (3, true), (4, true), (5, true), (6, true), (7, false), (8, true)] (by kernel_rfl) (by kernel_rfl) ?_
      simp only [opsPi, List.filterMap_cons, List.filterMap_nil, List.getElem?_toArray, List.getElem?_cons_zero, List.getElem?_cons_succ, Option.map_some]
      rw [HV.out]
      repeat (first | (refine pi_take (v := _) rfl (fun W hW => by go_simp <;> exact rfl) ?_; simp only [Act.put, List.setIfInBounds_toArray, List.set_cons_zero, List.set_cons_succ]) | (refine pi_skip rfl ?_; simp only [Act.put, List.setIfInBounds_toArray, List.set_cons_zero, List.set_cons_succ]))
      clear e0 b0 b1
      refine pi_run ?_
      go_wp2_with fail
      refine hh.out.mono ?_
      rintro e w2 ⟨rfl, hb⟩
      have HB2 := hide (show Le V w2 from hb)
      clear hb
      go_wp2_with fail
      refine ⟨HB2.out, ?_⟩
      repeat (first | (refine pi_take (v := _) rfl (fun W hW => by go_simp <;> exact rfl) ?_; simp only [Act.put, List.setIfInBounds_toArray, List.set_cons_zero, List.set_cons_succ]) | (refine pi_skip rfl ?_; simp only [Act.put, List.setIfInBounds_toArray, List.set_cons_zero, List.set_cons_succ]))
      refine pi_done ?_
      have HL2 := hide (HLV.out.trans HB2.out)
      have HO2 := hide (own_below HOV.out HB2.out)
      clear hh
      go_wp2_with fail
      go_loopw [9, 10] (fun s t wr => ∃ j : Nat, s = .bool (hv && !((gone.take j).any (byG H ex u.k))) ∧ t = .int .i64 j ∧ j ≤ gn ∧ Hid (Le w2 wr)) (fun _ t _ => gn - (intOf t).toNat)
      case atStart => exact ⟨0, by simp, rfl, Nat.zero_le _, hide (Le.refl _)⟩
      case round =>
        obtain ⟨j, rfl, rfl, hj, HLj⟩ := hrel
        obtain ⟨bc, hbc⟩ : ∃ b, (hv && !((gone.take j).any (byG H ex u.k))) = b := ⟨_, rfl⟩
        rw [hbc]
        by_cases hjn : j < gn
        · obtain ⟨y, hy⟩ : ∃ y, gone[j]? = some y := ⟨_, List.getElem?_eq_getElem (by rw [HGL.out]; exact hjn)⟩
          obtain ⟨bY, oY, rfl, hbY, y0, y1, y2, y3⟩ := row_gn HGR.out hy
          have hjI : (j : Int) < gn := by omega
          have hst := any_step (p := byG H ex u.k) hy
          obtain ⟨R, hR⟩ : ∃ R, eqK y.k u.k = R := ⟨_, rfl⟩
          obtain ⟨Q, hQ⟩ : ∃ Q, has H ex y.who = Q := ⟨_, rfl⟩
          have HRK := hide hR
          have HST := hide (show (hv && !((gone.take (j + 1)).any (byG H ex u.k))) = (bc && !(R && Q)) by
            rw [hst, ← hbc, ← hR, ← hQ]
            show (hv && !(_ || byG H ex u.k y)) = _
            unfold byG
            cases hv <;> cases (gone.take j).any (fun g => eqK g.k u.k && has H ex g.who) <;> simp)
          have HYC := hide (And.intro y0 (And.intro y1 y2))
          go_upto_region 9 with fail
          obtain ⟨V2, hV2⟩ : ∃ V, wr.drew = V := ⟨_, rfl⟩
          have HLV2 := hide (show Le w2 V2 by rw [← hV2]; exact HLj.out.drew)
          have HLW2 := hide ((HLX.out.trans HL2.out).trans HLV2.out)
          have HLX2 := hide (HL2.out.trans HLV2.out)
          have HV2 := hide hV2
          have yc3 : ∀ W, Le V2 W → W.cell? ⟨bY, oY + j * 4 + 3, none⟩ = some (.int .i64 y.who) := fun W h => ((HLW2.out.trans h).cell (p := ⟨bY, oY + j * 4 + 3, none⟩) hbY).trans y3
          have b0 : ∀ W, Le V2 W → W.cell? ⟨w.heap.size, 0, none⟩ = some (.int .i64 H) := fun W h => BX.out.later 0 _ rfl W (HLX2.out.trans h)
          have b1 : ∀ W, Le V2 W → W.cell? ⟨w.heap.size, 1, none⟩ = some (.slice A n c) := fun W h => BX.out.later 1 _ rfl W (HLX2.out.trans h)
          have hh := hide (hha.out V2 HLW2.out y.who)
          rw [hQ] at hh
          clear hV2 y0 y1 y2 y3 hy hst hR hQ hbc
          refine region_pi [(0, true), (1, true), (2, true), (3, true), (4, true), (5, true), (6, false), (7, true)] (by kernel_rfl) (by kernel_rfl) ?_
          simp only [opsPi, List.filterMap_cons, List.filterMap_nil, List.getElem?_toArray, List.getElem?_cons_zero, List.getElem?_cons_succ, Option.map_some]
          rw [HV2.out]
          repeat (first | (refine pi_take (v := _) rfl (fun W hW => by go_simp <;> exact rfl) ?_; simp only [Act.put, List.setIfInBounds_toArray, List.set_cons_zero, List.set_cons_succ]) | (refine pi_skip rfl ?_; simp only [Act.put, List.setIfInBounds_toArray, List.set_cons_zero, List.set_cons_succ]))
          clear yc3 b0 b1
          refine pi_run ?_
          go_wp2_with fail
          refine hh.out.mono ?_
          rintro e w3 ⟨rfl, hb⟩
          have HB3 := hide (show Le V2 w3 from hb)
          clear hb
          go_wp2_with fail
          refine ⟨HB3.out, ?_⟩
          repeat (first | (refine pi_take (v := _) rfl (fun W hW => by go_simp <;> exact rfl) ?_; simp only [Act.put, List.setIfInBounds_toArray, List.set_cons_zero, List.set_cons_succ]) | (refine pi_skip rfl ?_; simp only [Act.put, List.setIfInBounds_toArray, List.set_cons_zero, List.set_cons_succ]))
          refine pi_done ?_
          clear hh
          have HL3 := hide (HLW2.out.trans HB3.out)
          have HL23 := hide (HLV2.out.trans HB3.out)
          go_upto_region 10 with fail
          obtain ⟨U, hU⟩ : ∃ V, w3.drew = V := ⟨_, rfl⟩
          have HLU := hide (show Le w U by rw [← hU]; exact HL3.out.drew)
          have HLU2 := hide (show Le w2 U by rw [← hU]; exact HL23.out.drew)
          have HU := hide hU
          have yc0 : ∀ W, Le U W → W.cell? ⟨bY, oY + j * 4, none⟩ = some (.int .i64 y.k.id) := fun W h => ((HLU.out.trans h).cell (p := ⟨bY, oY + j * 4, none⟩) hbY).trans HYC.out.1
          have yc1 : ∀ W, Le U W → W.cell? ⟨bY, oY + j * 4 + 1, none⟩ = some (.int .i64 y.k.bk) := fun W h => ((HLU.out.trans h).cell (p := ⟨bY, oY + j * 4 + 1, none⟩) hbY).trans HYC.out.2.1
          have yc2 : ∀ W, Le U W → W.cell? ⟨bY, oY + j * 4 + 2, none⟩ = some (.int .i64 y.k.rw) := fun W h => ((HLU.out.trans h).cell (p := ⟨bY, oY + j * 4 + 2, none⟩) hbY).trans HYC.out.2.2
          have uc0 : ∀ W, Le U W → W.cell? ⟨bA, oA + i * 4, none⟩ = some (.int .i64 u.k.id) := fun W h => ((HLU.out.trans h).cell (p := ⟨bA, oA + i * 4, none⟩) hbA).trans HRO.out.1
          have uc1 : ∀ W, Le U W → W.cell? ⟨bA, oA + i * 4 + 1, none⟩ = some (.int .i64 u.k.bk) := fun W h => ((HLU.out.trans h).cell (p := ⟨bA, oA + i * 4 + 1, none⟩) hbA).trans HRO.out.2.1
          have uc2 : ∀ W, Le U W → W.cell? ⟨bA, oA + i * 4 + 2, none⟩ = some (.int .i64 u.k.rw) := fun W h => ((HLU.out.trans h).cell (p := ⟨bA, oA + i * 4 + 2, none⟩) hbA).trans HRO.out.2.2.1
          clear hU
          cases R
          ·
            refine region_pi [(0, true), (1, true), (2, true), (3, true), (4, true), (5, true), (6, true), (7, true), (8, true), (9, true), (10, true), (11, true), (12, true), (13, true)] (by kernel_rfl) (by kernel_rfl) ?_
            simp only [opsPi, List.filterMap_cons, List.filterMap_nil, List.getElem?_toArray, List.getElem?_cons_zero, List.getElem?_cons_succ, Option.map_some]
            rw [HU.out]
            repeat (first | (refine pi_take (v := _) rfl (fun W hW => by go_simp <;> exact rfl) ?_; simp only [Act.put, List.setIfInBounds_toArray, List.set_cons_zero, List.set_cons_succ]) | (refine pi_skip rfl ?_; simp only [Act.put, List.setIfInBounds_toArray, List.set_cons_zero, List.set_cons_succ]))
            refine pi_take (v := .bool _) rfl (fun W' hW' => eqk_exec (x := y.k) (y := u.k) rfl rfl rfl W') ?_
            rw [HRK.out]
            simp only [Act.put, List.setIfInBounds_toArray, List.set_cons_zero, List.set_cons_succ]
            repeat (first | (refine pi_take (v := _) rfl (fun W hW => by go_simp <;> exact rfl) ?_; simp only [Act.put, List.setIfInBounds_toArray, List.set_cons_zero, List.set_cons_succ]) | (refine pi_skip rfl ?_; simp only [Act.put, List.setIfInBounds_toArray, List.set_cons_zero, List.set_cons_succ]))
            refine pi_done ?_
            clear yc0 yc1 yc2 uc0 uc1 uc2
            go_wp2_with fail
            exact ⟨⟨j + 1, by rw [HST.out]; simp, by go_num, by omega, HLU2⟩, by simp [intOf]; omega⟩
          ·
            refine region_pi [(0, true), (1, true), (2, true), (3, true), (4, true), (5, true), (6, true), (7, true), (8, true), (9, true), (10, true), (11, true), (12, true), (13, true)] (by kernel_rfl) (by kernel_rfl) ?_
            simp only [opsPi, List.filterMap_cons, List.filterMap_nil, List.getElem?_toArray, List.getElem?_cons_zero, List.getElem?_cons_succ, Option.map_some]
            rw [HU.out]
            repeat (first | (refine pi_take (v := _) rfl (fun W hW => by go_simp <;> exact rfl) ?_; simp only [Act.put, List.setIfInBounds_toArray, List.set_cons_zero, List.set_cons_succ]) | (refine pi_skip rfl ?_; simp only [Act.put, List.setIfInBounds_toArray, List.set_cons_zero, List.set_cons_succ]))
            refine pi_take (v := .bool _) rfl (fun W' hW' => eqk_exec (x := y.k) (y := u.k) rfl rfl rfl W') ?_
            rw [HRK.out]
            simp only [Act.put, List.setIfInBounds_toArray, List.set_cons_zero, List.set_cons_succ]
            repeat (first | (refine pi_take (v := _) rfl (fun W hW => by go_simp <;> exact rfl) ?_; simp only [Act.put, List.setIfInBounds_toArray, List.set_cons_zero, List.set_cons_succ]) | (refine pi_skip rfl ?_; simp only [Act.put, List.setIfInBounds_toArray, List.set_cons_zero, List.set_cons_succ]))
            refine pi_done ?_
            clear yc0 yc1 yc2 uc0 uc1 uc2
            cases Q
            · go_wp2_with fail
              exact ⟨⟨j + 1, by rw [HST.out]; simp, by go_num, by omega, HLU2⟩, by simp [intOf]; omega⟩
            · go_wp2_with fail
              exact ⟨⟨j + 1, by rw [HST.out]; simp, by go_num, by omega, HLU2⟩, by simp [intOf]; omega⟩
        · obtain rfl : j = gn := by omega
          rw [List.take_of_length_le (by rw [HGL.out]; exact Nat.le_refl _)] at hbc
          have hle : ¬ (j : Int) < j := by omega
          have hsn : (has H ex u.k.id && !(gone.any (byG H ex u.k))) = bc := by rw [HHV.out]; exact hbc
          have HSN := hide (show (rows.take (i + 1)).filter (seen H ex gone) = if bc then (rows.take i).filter (seen H ex gone) ++ [u] else (rows.take i).filter (seen H ex gone) by rw [HSS.out, hsn])
          have HLj2 := hide (HL2.out.trans HLj.out)
          have HOj := hide (own_below HO2.out HLj.out)
          have HLwj := hide (HLX.out.trans HLj2.out)
          clear hbc hsn
          cases bc
          · go_wp2_with fail
            exact ⟨⟨i + 1, g1, k1, c1, L, rfl, by go_num, by omega, by omega, hide (by rw [HSN.out]; exact HLL.out), HKL, HOj, HLj2⟩, by simp [intOf]; omega⟩
          · have f0 : wr.cell? ⟨bA, oA + i * 4, none⟩ = some (.int .i64 u.k.id) := (HLwj.out.cell (p := ⟨bA, oA + i * 4, none⟩) hbA).trans HRO.out.1
            have f1 : wr.cell? ⟨bA, oA + i * 4 + 1, none⟩ = some (.int .i64 u.k.bk) := (HLwj.out.cell (p := ⟨bA, oA + i * 4 + 1, none⟩) hbA).trans HRO.out.2.1
            have f2 : wr.cell? ⟨bA, oA + i * 4 + 2, none⟩ = some (.int .i64 u.k.rw) := (HLwj.out.cell (p := ⟨bA, oA + i * 4 + 2, none⟩) hbA).trans HRO.out.2.2.1
            have f3 : wr.cell? ⟨bA, oA + i * 4 + 3, none⟩ = some (.slice u.A u.n u.c) := (HLwj.out.cell (p := ⟨bA, oA + i * 4 + 3, none⟩) hbA).trans HRO.out.2.2.2
            have hpt := hide (rput_any wr w.heap.size g1 k1 c1 L u HLwj.out.size (by omega) HOj.out)
            go_wp2_with fail
            refine hpt.out.mono ?_
            rintro e w4 ⟨g2, k2, c2, rfl, h1, h2, h3, h4⟩
            have H1 := hide h1
            have H2 := hide h2
            have H4 := hide (HLj2.out.trans h4)
            clear h1 h2 h4 f0 f1 f2 f3 hpt
            go_wp2_with fail
            exact ⟨⟨i + 1, g2, k2, c2, _, rfl, by go_num, by omega, by omega, hide (by rw [HSN.out, HLL.out]; simp [List.foldl_append]), H2, H1, H4⟩, by simp [intOf]; omega⟩
    · obtain rfl : i = rn := by omega
      have hle : ¬ (i : Int) < i := by omega
      have hall : rows.take i = rows := List.take_of_length_le (by rw [HRL.out]; exact Nat.le_refl _)
      rw [hall] at HLL
      go_wp2_with fail
      go_ret
      exact ⟨g1, k1, c1, rfl, by rw [← HLL.out]; exact HKL.out, by omega, by rw [← HLL.out]; exact HO.out, HLX.out.trans HLr.out⟩
#print axioms rof_any
end Go.Proofs.Ytjedpjfmlaganaa.vw
