/-
  The law on what a list with more write-ids sees, walked (written by genVwGw.py).
-/
import Derived.Test.YtjedpjfmlaganaaVwG
namespace Go.Proofs.Ytjedpjfmlaganaa.vw
open Go.RowKit
set_option linter.unusedVariables false

theorem and7 (k : Int) : ∃ m : Nat, m < 8 ∧ bits .and .i64 k 7 = (m : Int) := by
  refine ⟨(BitVec.ofInt 64 k &&& BitVec.ofInt 64 7).toNat, ?_, ?_⟩
  · rw [BitVec.toNat_and]
    exact Nat.lt_of_le_of_lt Nat.and_le_right (by decide)
  · have h : (BitVec.ofInt 64 k &&& BitVec.ofInt 64 7).toNat < 8 := by
      rw [BitVec.toNat_and]
      exact Nat.lt_of_le_of_lt Nat.and_le_right (by decide)
    show IntKind.i64.wrap ((BitVec.ofInt 64 k &&& BitVec.ofInt 64 7).toNat : Int) = _
    rw [IntKind.wrap_i64]
    omega
set_option maxRecDepth 100000 in
set_option maxHeartbeats 8000000 in
theorem grows_walk (w : World) (high : Int) (RA GA : Option Addr) (rn rc gn gc : Nat) (rows : List Kd) (gone : List Gn) (hrl : rows.length = rn) (hrc : rn ≤ rc) (hrm : rc ≤ maxLen) (hrr : Row w w.heap.size RA (kcs rows)) (hrk : ∀ x ∈ rows, KHas w w.heap.size x ∧ KeWf x.k)
    (hgl : gone.length = gn) (hgc : gn ≤ gc) (hgm : gc ≤ maxLen) (hgr : Row w w.heap.size GA (gcs gone)) (hgk : ∀ g ∈ gone, KeWf g.k) :
    Calls Try.prog 6 #[.int .i64 high, .slice RA rn rc, .slice GA gn gc] w fun e w' => e = .returned (.bool true) ∧ Below w.heap.size w w' := by
  obtain ⟨k2, hk2⟩ : ∃ k, min rn 60 = k := ⟨_, rfl⟩
  obtain ⟨g2, hg2⟩ : ∃ k, min gn 60 = k := ⟨_, rfl⟩
  have HRL := hide (show (rows.take 60).length = k2 by rw [List.length_take, hrl, ← hk2]; omega)
  have HGL := hide (show (gone.take 60).length = g2 by rw [List.length_take, hgl, ← hg2]; omega)
  have hrr2 := hrr.take (60 * 4)
  rw [kcs_take] at hrr2
  have hgr2 := hgr.take (60 * 4)
  rw [gcs_take] at hgr2
  have HRK := hide (show ∀ x ∈ rows.take 60, KHas w w.heap.size x ∧ KeWf x.k from fun x hx => hrk x (List.mem_of_mem_take hx))
  have HGK := hide (show ∀ g ∈ gone.take 60, KeWf g.k from fun g hg => hgk g (List.mem_of_mem_take hg))
  generalize rows.take 60 = R at HRL hrr2 HRK
  generalize gone.take 60 = G at HGL hgr2 HGK
  have HRR := hide hrr2
  have HGR := hide hgr2
  have hk60 : k2 ≤ 60 := by omega
  have hg60 : g2 ≤ 60 := by omega
  have HG2 := hide hg2
  have hff := hide (fun (W : World) => few_any W RA rn rc hrc hrm)
  have hll := hide (fun (W : World) => less_any W GA gn gc hgc hgm)
  rw [hk2] at hff
  rw [hg2] at hll
  have hsh := hide (shown_any w)
  have hg3 : g2 ≤ gn := by omega
  have hg4 : ∀ j : Nat, (j < gn ∧ j < 60) ↔ j < g2 := fun j => by omega
  have HG4 := hide hg4
  unfold maxLen at hgm
  clear hrl hrr hrk hgl hgr hgk hrr2 hgr2 hk2 hg2 hg4
  have hof := hide (fun (W : World) (h : Le w W) (H : Int) => of_any W H none 0 0 [] rfl (by omega) Row.none_ RA k2 rc R HRL.out (by omega) ((h.row HRR.out (Nat.le_refl _)).more h.size) (fun x hx => ⟨((HRK.out x hx).1).on h (Nat.le_refl _) h.size, (HRK.out x hx).2⟩) GA g2 gc G HGL.out (by omega) ((h.row HGR.out (Nat.le_refl _)).more h.size) HGK.out)
  go_enter Try.func6, Try.ntmps6
  go_wp2_with fail
  refine hsh.out.mono ?_
  rintro e w1 ⟨rfl, hb⟩
  have HL1 := hide hb
  clear hb hsh
  obtain ⟨n, hn8, hn⟩ := and7 high
  have hn1 : IntKind.i64.wrap ((n : Int) + 1) = (n : Int) + 1 := by rw [IntWalk.i64_in _ (by omega)]
  have hfa := hide (hof.out w1 HL1.out n)
  go_wp2_with fail
  refine (hff.out _).mono ?_
  rintro e w' ⟨rfl, rfl⟩
  go_wp2_with fail
  refine (hll.out _).mono ?_
  rintro e w' ⟨rfl, rfl⟩
  go_wp2_with fail
  refine hfa.out.mono ?_
  rintro e w2 ⟨A1, n1, c1, Sa, rfl, hla, hn1a, hfsa, howna, hkka, hba⟩
  have HL2 := hide (HL1.out.trans hba)
  have HLA := hide hla
  have HFA := hide hfsa
  have HRA := hide (Row.of_own howna)
  clear hla hfsa howna hkka hba hfa
  have hfb := hide (hof.out w2 HL2.out ((n : Int) + 1))
  go_wp2_with fail
  refine (hff.out _).mono ?_
  rintro e w' ⟨rfl, rfl⟩
  go_wp2_with fail
  refine (hll.out _).mono ?_
  rintro e w' ⟨rfl, rfl⟩
  go_wp2_with fail
  refine hfb.out.mono ?_
  rintro e w4 ⟨A2, n2, c2, Sb, rfl, hlb, hn2b, hfsb, hownb, hkkb, hbb⟩
  have HL4 := hide (HL2.out.trans hbb)
  have HLB := hide hlb
  have HFB := hide hfsb
  have HRB := hide (Row.of_own hownb)
  have HRA4 := hide ((Le.row hbb HRA.out (Nat.le_refl _)).more hbb.size)
  have HRG4 := hide ((HL4.out.row HGR.out (Nat.le_refl _)).more HL4.out.size)
  have HKEPT := hide (fun (x : Kd) (hx : x ∈ Sa) => grows_kept HFA.out HFB.out hx)
  have HKNOWN := hide (fun (x : Kd) (hx : x ∈ Sb) => grows_known HFA.out HFB.out hx)
  clear hlb hfsb hownb hkkb hbb hfb hof hff hll HFA HFB HRA HRR HGR HRK HGK HRL
  go_wp2_with fail
  go_loopw [11] (fun s wr => ∃ i : Nat, s = .int .i64 i ∧ i ≤ n1 ∧ Hid (Le w4 wr)) (fun s _ => n1 - (intOf s).toNat)
  case atStart => exact ⟨0, rfl, Nat.zero_le _, hide (Le.refl _)⟩
  case round =>
    obtain ⟨i, rfl, hi, HLi⟩ := hrel
    by_cases hin : i < n1
    · obtain ⟨x, hx⟩ : ∃ x, Sa[i]? = some x := ⟨_, List.getElem?_eq_getElem (by rw [HLA.out]; exact hin)⟩
      obtain ⟨bX, oX, rfl, hbX, x0, x1, x2, -⟩ := row_kd HRA4.out hx
      have hiI : (i : Int) < n1 := by omega
      have HKX := hide (HKEPT.out x (List.mem_of_getElem? hx))
      have HX := hide (And.intro x0 (And.intro x1 x2))
      obtain ⟨Z, rfl⟩ : ∃ Z, Z = wr := ⟨_, rfl⟩
      clear hx x0 x1 x2
      go_wp2_with fail
      go_loopw [12, 13] (fun t s wr => ∃ k : Nat, t = .bool ((Sb.take k).any fun y => eqK y.k x.k) ∧ s = .int .i64 k ∧ k ≤ n2 ∧ Hid (Le w4 wr)) (fun _ s _ => n2 - (intOf s).toNat)
      case atStart => exact ⟨0, rfl, rfl, Nat.zero_le _, HLi⟩
      case round =>
        obtain ⟨k, rfl, rfl, hk, HLr⟩ := hrel
        obtain ⟨bb, hbb⟩ : ∃ b, ((Sb.take k).any fun y => eqK y.k x.k) = b := ⟨_, rfl⟩
        rw [hbb]
        by_cases hkn : k < n2
        · obtain ⟨y, hy⟩ : ∃ y, Sb[k]? = some y := ⟨_, List.getElem?_eq_getElem (by rw [HLB.out]; exact hkn)⟩
          obtain ⟨bY, oY, rfl, hbY, y0, y1, y2, -⟩ := row_kd HRB.out hy
          have hkI : (k : Int) < n2 := by omega
          have hst := any_step (p := fun y : Kd => eqK y.k x.k) hy
          rw [hbb] at hst
          obtain ⟨R, hR⟩ : ∃ R, eqK y.k x.k = R := ⟨_, rfl⟩
          have HRK := hide hR
          have hst2 : ((Sb.take (k + 1)).any fun y => eqK y.k x.k) = (bb || R) := by rw [hst, hR]
          have HST := hide hst2
          obtain ⟨x0, x1, x2⟩ := HX.out
          obtain ⟨U, hU⟩ : ∃ U, wr.drew = U := ⟨_, rfl⟩
          have HLU := hide (show Le w4 U by rw [← hU]; exact HLr.out.drew)
          have HU := hide hU
          have yc0 : ∀ W, Le U W → W.cell? ⟨bY, oY + k * 4, none⟩ = _ := fun W h => ((HLU.out.trans h).cell (p := ⟨bY, oY + k * 4, none⟩) hbY).trans y0
          have yc1 : ∀ W, Le U W → W.cell? ⟨bY, oY + k * 4 + 1, none⟩ = _ := fun W h => ((HLU.out.trans h).cell (p := ⟨bY, oY + k * 4 + 1, none⟩) hbY).trans y1
          have yc2 : ∀ W, Le U W → W.cell? ⟨bY, oY + k * 4 + 2, none⟩ = _ := fun W h => ((HLU.out.trans h).cell (p := ⟨bY, oY + k * 4 + 2, none⟩) hbY).trans y2
          have xc0 : ∀ W, Le U W → W.cell? ⟨bX, oX + i * 4, none⟩ = _ := fun W h => ((HLU.out.trans h).cell (p := ⟨bX, oX + i * 4, none⟩) hbX).trans x0
          have xc1 : ∀ W, Le U W → W.cell? ⟨bX, oX + i * 4 + 1, none⟩ = _ := fun W h => ((HLU.out.trans h).cell (p := ⟨bX, oX + i * 4 + 1, none⟩) hbX).trans x1
          have xc2 : ∀ W, Le U W → W.cell? ⟨bX, oX + i * 4 + 2, none⟩ = _ := fun W h => ((HLU.out.trans h).cell (p := ⟨bX, oX + i * 4 + 2, none⟩) hbX).trans x2
          clear x0 x1 x2 y0 y1 y2 hy hst hst2 hR hbb hU
          go_upto_region 12 with fail
          cases bb
          ·
            refine region_pi [(0, true), (1, true), (2, true), (3, true), (4, true), (5, true), (6, true), (7, true), (8, true), (9, true), (10, true), (11, true), (12, true), (13, true), (14, true)] (by kernel_rfl) (by kernel_rfl) ?_
            simp only [opsPi, List.filterMap_cons, List.filterMap_nil, List.getElem?_toArray, List.getElem?_cons_zero, List.getElem?_cons_succ, Option.map_some]
            rw [HU.out]
            repeat (first | (refine pi_take (v := _) rfl (fun W hW => by go_simp <;> exact rfl) ?_; simp only [Act.put, List.setIfInBounds_toArray, List.set_cons_zero, List.set_cons_succ]) | (refine pi_skip rfl ?_; simp only [Act.put, List.setIfInBounds_toArray, List.set_cons_zero, List.set_cons_succ]))
            refine pi_take (v := .bool _) rfl (fun W' hW' => eqk_exec (x := y.k) (y := x.k) rfl rfl rfl W') ?_
            rw [HRK.out]
            simp only [Act.put, List.setIfInBounds_toArray, List.set_cons_zero, List.set_cons_succ]
            repeat (first | (refine pi_take (v := _) rfl (fun W hW => by go_simp <;> exact rfl) ?_; simp only [Act.put, List.setIfInBounds_toArray, List.set_cons_zero, List.set_cons_succ]) | (refine pi_skip rfl ?_; simp only [Act.put, List.setIfInBounds_toArray, List.set_cons_zero, List.set_cons_succ]))
            refine pi_done ?_
            clear xc0 xc1 xc2 yc0 yc1 yc2
            go_wp2_with fail
            exact ⟨⟨k + 1, by rw [HST.out]; rfl, by go_num, by omega, HLU⟩, by simp [intOf]; omega⟩
          ·
            refine region_pi [(0, true), (1, true), (2, true), (3, true), (4, true), (5, true), (6, true), (7, true), (8, true), (9, true), (10, true), (11, true), (12, true), (13, true), (14, true)] (by kernel_rfl) (by kernel_rfl) ?_
            simp only [opsPi, List.filterMap_cons, List.filterMap_nil, List.getElem?_toArray, List.getElem?_cons_zero, List.getElem?_cons_succ, Option.map_some]
            rw [HU.out]
            repeat (first | (refine pi_take (v := _) rfl (fun W hW => by go_simp <;> exact rfl) ?_; simp only [Act.put, List.setIfInBounds_toArray, List.set_cons_zero, List.set_cons_succ]) | (refine pi_skip rfl ?_; simp only [Act.put, List.setIfInBounds_toArray, List.set_cons_zero, List.set_cons_succ]))
            refine pi_done ?_
            clear xc0 xc1 xc2 yc0 yc1 yc2
            go_wp2_with fail
            exact ⟨⟨k + 1, by rw [HST.out]; rfl, by go_num, by omega, HLU⟩, by simp [intOf]; omega⟩
        · obtain rfl : k = n2 := by omega
          rw [List.take_of_length_le (by rw [HLB.out]; exact Nat.le_refl _)] at hbb
          rw [hbb] at HKX
          have hle : ¬ (k : Int) < k := by omega
          clear hbb
          go_wp2_with fail
          go_loopw [12, 14] (fun t s wr => ∃ j : Nat, t = .bool (bb || (G.take j).any (goneBy x.k ((n : Int) + 1))) ∧ s = .int .i64 j ∧ j ≤ g2 ∧ Hid (Le w4 wr)) (fun _ s _ => g2 - (intOf s).toNat)
          case atStart => exact ⟨0, by simp, rfl, Nat.zero_le _, HLr⟩
          case round =>
            clear HLr
            obtain ⟨j, rfl, rfl, hj, HLr⟩ := hrel
            obtain ⟨bc, hbc⟩ : ∃ b, (bb || (G.take j).any (goneBy x.k ((n : Int) + 1))) = b := ⟨_, rfl⟩
            rw [hbc]
            by_cases hjn : j < g2
            · have hj2 := (HG4.out j).2 hjn
              have hjI : (j : Int) < gn := by omega
              have hj60 : (j : Int) < 60 := by omega
              obtain ⟨y, hy⟩ : ∃ y, G[j]? = some y := ⟨_, List.getElem?_eq_getElem (by rw [HGL.out]; exact hjn)⟩
              obtain ⟨bY, oY, rfl, hbY, y0, y1, y2, y3⟩ := row_gn HRG4.out hy
              have hst := any_step (p := goneBy x.k ((n : Int) + 1)) hy
              obtain ⟨R, hR⟩ : ∃ R, eqK y.k x.k = R := ⟨_, rfl⟩
              obtain ⟨Q, hQ⟩ : ∃ Q, (y.who == (n : Int) + 1) = Q := ⟨_, rfl⟩
              have HRK := hide hR
              have hst2 : (bb || (G.take (j + 1)).any (goneBy x.k ((n : Int) + 1))) = (bc || (R && Q)) := by
                rw [hst, ← Bool.or_assoc, hbc]
                unfold goneBy
                rw [hR, hQ]
              have HST := hide hst2
              obtain ⟨x0, x1, x2⟩ := HX.out
              obtain ⟨U, hU⟩ : ∃ U, wr.drew = U := ⟨_, rfl⟩
              have HLU := hide (show Le w4 U by rw [← hU]; exact HLr.out.drew)
              have HU := hide hU
              have yc0 : ∀ W, Le U W → W.cell? ⟨bY, oY + j * 4, none⟩ = _ := fun W h => ((HLU.out.trans h).cell (p := ⟨bY, oY + j * 4, none⟩) hbY).trans y0
              have yc1 : ∀ W, Le U W → W.cell? ⟨bY, oY + j * 4 + 1, none⟩ = _ := fun W h => ((HLU.out.trans h).cell (p := ⟨bY, oY + j * 4 + 1, none⟩) hbY).trans y1
              have yc2 : ∀ W, Le U W → W.cell? ⟨bY, oY + j * 4 + 2, none⟩ = _ := fun W h => ((HLU.out.trans h).cell (p := ⟨bY, oY + j * 4 + 2, none⟩) hbY).trans y2
              have xc0 : ∀ W, Le U W → W.cell? ⟨bX, oX + i * 4, none⟩ = _ := fun W h => ((HLU.out.trans h).cell (p := ⟨bX, oX + i * 4, none⟩) hbX).trans x0
              have xc1 : ∀ W, Le U W → W.cell? ⟨bX, oX + i * 4 + 1, none⟩ = _ := fun W h => ((HLU.out.trans h).cell (p := ⟨bX, oX + i * 4 + 1, none⟩) hbX).trans x1
              have xc2 : ∀ W, Le U W → W.cell? ⟨bX, oX + i * 4 + 2, none⟩ = _ := fun W h => ((HLU.out.trans h).cell (p := ⟨bX, oX + i * 4 + 2, none⟩) hbX).trans x2
              have yc3 : ∀ W, Le U W → W.cell? ⟨bY, oY + j * 4 + 3, none⟩ = _ := fun W h => ((HLU.out.trans h).cell (p := ⟨bY, oY + j * 4 + 3, none⟩) hbY).trans y3
              clear x0 x1 x2 y0 y1 y2 y3 hy hst hst2 hR hbc hU hj2
              go_upto_region 16 with fail
              cases bc
              · cases R
                ·
                  refine region_pi [(0, true), (1, true), (2, true), (3, true), (4, true), (5, true), (6, true), (7, true), (8, true), (9, true), (10, true), (11, true), (12, true), (13, true), (14, true), (15, true), (16, true), (17, true), (18, true), (19, true), (20, true), (21, true), (22, true), (23, true), (24, true)] (by kernel_rfl) (by kernel_rfl) ?_
                  simp only [opsPi, List.filterMap_cons, List.filterMap_nil, List.getElem?_toArray, List.getElem?_cons_zero, List.getElem?_cons_succ, Option.map_some]
                  rw [HU.out]
                  repeat (first | (refine pi_take (v := _) rfl (fun W hW => by go_simp <;> exact rfl) ?_; simp only [Act.put, List.setIfInBounds_toArray, List.set_cons_zero, List.set_cons_succ]) | (refine pi_skip rfl ?_; simp only [Act.put, List.setIfInBounds_toArray, List.set_cons_zero, List.set_cons_succ]))
                  refine pi_take (v := .bool _) rfl (fun W' hW' => eqk_exec (x := y.k) (y := x.k) rfl rfl rfl W') ?_
                  rw [HRK.out]
                  simp only [Act.put, List.setIfInBounds_toArray, List.set_cons_zero, List.set_cons_succ]
                  repeat (first | (refine pi_take (v := _) rfl (fun W hW => by go_simp <;> exact rfl) ?_; simp only [Act.put, List.setIfInBounds_toArray, List.set_cons_zero, List.set_cons_succ]) | (refine pi_skip rfl ?_; simp only [Act.put, List.setIfInBounds_toArray, List.set_cons_zero, List.set_cons_succ]))
                  refine pi_done ?_
                  clear xc0 xc1 xc2 yc0 yc1 yc2 yc3 hQ
                  go_wp2_with fail
                  exact ⟨⟨j + 1, by rw [HST.out]; rfl, by go_num, by omega, HLU⟩, by simp [intOf]; omega⟩
                ·
                  refine region_pi [(0, true), (1, true), (2, true), (3, true), (4, true), (5, true), (6, true), (7, true), (8, true), (9, true), (10, true), (11, true), (12, true), (13, true), (14, true), (15, true), (16, true), (17, true), (18, true), (19, true), (20, true), (21, true), (22, true), (23, true), (24, true)] (by kernel_rfl) (by kernel_rfl) ?_
                  simp only [opsPi, List.filterMap_cons, List.filterMap_nil, List.getElem?_toArray, List.getElem?_cons_zero, List.getElem?_cons_succ, Option.map_some]
                  rw [HU.out]
                  repeat (first | (refine pi_take (v := _) rfl (fun W hW => by go_simp <;> exact rfl) ?_; simp only [Act.put, List.setIfInBounds_toArray, List.set_cons_zero, List.set_cons_succ]) | (refine pi_skip rfl ?_; simp only [Act.put, List.setIfInBounds_toArray, List.set_cons_zero, List.set_cons_succ]))
                  refine pi_take (v := .bool _) rfl (fun W' hW' => eqk_exec (x := y.k) (y := x.k) rfl rfl rfl W') ?_
                  rw [HRK.out]
                  simp only [Act.put, List.setIfInBounds_toArray, List.set_cons_zero, List.set_cons_succ]
                  repeat (first | (refine pi_take (v := _) rfl (fun W hW => by go_simp <;> exact rfl) ?_; simp only [Act.put, List.setIfInBounds_toArray, List.set_cons_zero, List.set_cons_succ]) | (refine pi_skip rfl ?_; simp only [Act.put, List.setIfInBounds_toArray, List.set_cons_zero, List.set_cons_succ]))
                  refine pi_done ?_
                  clear xc0 xc1 xc2 yc0 yc1 yc2 yc3
                  go_wp2_with fail
                  exact ⟨⟨j + 1, by rw [HST.out, ← hQ]; rfl, by go_num, by omega, HLU⟩, by simp [intOf]; omega⟩
              ·
                refine region_pi [(0, true), (1, true), (2, true), (3, true), (4, true), (5, true), (6, true), (7, true), (8, true), (9, true), (10, true), (11, true), (12, true), (13, true), (14, true), (15, true), (16, true), (17, true), (18, true), (19, true), (20, true), (21, true), (22, true), (23, true), (24, true)] (by kernel_rfl) (by kernel_rfl) ?_
                simp only [opsPi, List.filterMap_cons, List.filterMap_nil, List.getElem?_toArray, List.getElem?_cons_zero, List.getElem?_cons_succ, Option.map_some]
                rw [HU.out]
                repeat (first | (refine pi_take (v := _) rfl (fun W hW => by go_simp <;> exact rfl) ?_; simp only [Act.put, List.setIfInBounds_toArray, List.set_cons_zero, List.set_cons_succ]) | (refine pi_skip rfl ?_; simp only [Act.put, List.setIfInBounds_toArray, List.set_cons_zero, List.set_cons_succ]))
                refine pi_done ?_
                clear xc0 xc1 xc2 yc0 yc1 yc2 yc3
                go_wp2_with fail
                exact ⟨⟨j + 1, by rw [HST.out]; rfl, by go_num, by omega, HLU⟩, by simp [intOf]; omega⟩
            · obtain rfl : j = g2 := by omega
              rw [List.take_of_length_le (by rw [HGL.out]; exact Nat.le_refl _), HKX.out] at hbc
              subst hbc
              have hj2 : ¬ (j < gn ∧ j < 60) := fun h => by have := (HG4.out j).1 h; omega
              go_upto_region 14 with fail
              go_cut [69] (fun s wx => s = .bool false ∧ Hid (Le w4 wx))
              case first =>
                by_cases hjg : j < gn
                · have hjI : (j : Int) < gn := by omega
                  have hj60 : decide ((j : Int) < 60) = false := decide_eq_false (by omega)
                  go_wp2_with fail
                  go_meet
                  exact ⟨rfl, HLr⟩
                · have hjI : decide ((j : Int) < gn) = false := decide_eq_false (by omega)
                  have hjI2 : ¬ j < gn := hjg
                  go_wp2_with fail
                  go_meet
                  exact ⟨rfl, HLr⟩
              case rest =>
                obtain ⟨rfl, HLc⟩ := hcut
                go_wp2_with fail
                exact ⟨⟨i + 1, by go_num, by omega, HLc⟩, by simp [intOf]; omega⟩
    · obtain rfl : i = n1 := by omega
      have hle : ¬ (i : Int) < i := by omega
      go_wp2_with fail
      go_loopw [15] (fun s wr => ∃ j : Nat, s = .int .i64 j ∧ j ≤ n2 ∧ Hid (Le w4 wr)) (fun s _ => n2 - (intOf s).toNat)
      case atStart => exact ⟨0, rfl, Nat.zero_le _, HLi⟩
      case round =>
        clear HLi hle
        obtain ⟨j, rfl, hj, HLj⟩ := hrel
        by_cases hjn : j < n2
        · obtain ⟨x, hx⟩ : ∃ x, Sb[j]? = some x := ⟨_, List.getElem?_eq_getElem (by rw [HLB.out]; exact hjn)⟩
          obtain ⟨bX, oX, rfl, hbX, x0, x1, x2, -⟩ := row_kd HRB.out hx
          have hjI : (j : Int) < n2 := by omega
          have HKX := hide (HKNOWN.out x (List.mem_of_getElem? hx))
          have HX := hide (And.intro x0 (And.intro x1 x2))
          obtain ⟨q, hq⟩ : ∃ q, (x.k.id == (n : Int) + 1) = q := ⟨_, rfl⟩
          rw [hq] at HKX
          have z0 : wr.cell? ⟨bX, oX + j * 4, none⟩ = some (.int .i64 x.k.id) := (HLj.out.cell (p := ⟨bX, oX + j * 4, none⟩) hbX).trans x0
          clear hx x0 x1 x2
          go_wp2_with fail
          go_loopw [16, 17] (fun t s wr => ∃ k : Nat, t = .bool (q || (Sa.take k).any fun y => eqK x.k y.k) ∧ s = .int .i64 k ∧ k ≤ i ∧ Hid (Le w4 wr)) (fun _ s _ => i - (intOf s).toNat)
          case atStart => exact ⟨0, by simp, rfl, Nat.zero_le _, HLj⟩
          case round =>
            clear z0 hq
            obtain ⟨k, rfl, rfl, hk, HLr⟩ := hrel
            obtain ⟨bb, hbb⟩ : ∃ b, (q || (Sa.take k).any fun y => eqK x.k y.k) = b := ⟨_, rfl⟩
            rw [hbb]
            by_cases hkn : k < i
            · obtain ⟨y, hy⟩ : ∃ y, Sa[k]? = some y := ⟨_, List.getElem?_eq_getElem (by rw [HLA.out]; exact hkn)⟩
              obtain ⟨bY, oY, rfl, hbY, y0, y1, y2, -⟩ := row_kd HRA4.out hy
              have hkI : (k : Int) < i := by omega
              have hst := any_step (p := fun y : Kd => eqK x.k y.k) hy
              obtain ⟨R, hR⟩ : ∃ R, eqK x.k y.k = R := ⟨_, rfl⟩
              have HRK := hide hR
              have hst2 : (q || (Sa.take (k + 1)).any fun y => eqK x.k y.k) = (bb || R) := by rw [hst, ← Bool.or_assoc, hbb, hR]
              have HST := hide hst2
              obtain ⟨x0, x1, x2⟩ := HX.out
              obtain ⟨U, hU⟩ : ∃ U, wr.drew = U := ⟨_, rfl⟩
              have HLU := hide (show Le w4 U by rw [← hU]; exact HLr.out.drew)
              have HU := hide hU
              have yc0 : ∀ W, Le U W → W.cell? ⟨bY, oY + k * 4, none⟩ = _ := fun W h => ((HLU.out.trans h).cell (p := ⟨bY, oY + k * 4, none⟩) hbY).trans y0
              have yc1 : ∀ W, Le U W → W.cell? ⟨bY, oY + k * 4 + 1, none⟩ = _ := fun W h => ((HLU.out.trans h).cell (p := ⟨bY, oY + k * 4 + 1, none⟩) hbY).trans y1
              have yc2 : ∀ W, Le U W → W.cell? ⟨bY, oY + k * 4 + 2, none⟩ = _ := fun W h => ((HLU.out.trans h).cell (p := ⟨bY, oY + k * 4 + 2, none⟩) hbY).trans y2
              have xc0 : ∀ W, Le U W → W.cell? ⟨bX, oX + j * 4, none⟩ = _ := fun W h => ((HLU.out.trans h).cell (p := ⟨bX, oX + j * 4, none⟩) hbX).trans x0
              have xc1 : ∀ W, Le U W → W.cell? ⟨bX, oX + j * 4 + 1, none⟩ = _ := fun W h => ((HLU.out.trans h).cell (p := ⟨bX, oX + j * 4 + 1, none⟩) hbX).trans x1
              have xc2 : ∀ W, Le U W → W.cell? ⟨bX, oX + j * 4 + 2, none⟩ = _ := fun W h => ((HLU.out.trans h).cell (p := ⟨bX, oX + j * 4 + 2, none⟩) hbX).trans x2
              clear x0 x1 x2 y0 y1 y2 hy hst hst2 hR hbb hU
              go_upto_region 26 with fail
              cases bb
              ·
                refine region_pi [(0, true), (1, true), (2, true), (3, true), (4, true), (5, true), (6, true), (7, true), (8, true), (9, true), (10, true), (11, true), (12, true), (13, true), (14, true)] (by kernel_rfl) (by kernel_rfl) ?_
                simp only [opsPi, List.filterMap_cons, List.filterMap_nil, List.getElem?_toArray, List.getElem?_cons_zero, List.getElem?_cons_succ, Option.map_some]
                rw [HU.out]
                repeat (first | (refine pi_take (v := _) rfl (fun W hW => by go_simp <;> exact rfl) ?_; simp only [Act.put, List.setIfInBounds_toArray, List.set_cons_zero, List.set_cons_succ]) | (refine pi_skip rfl ?_; simp only [Act.put, List.setIfInBounds_toArray, List.set_cons_zero, List.set_cons_succ]))
                refine pi_take (v := .bool _) rfl (fun W' hW' => eqk_exec (x := x.k) (y := y.k) rfl rfl rfl W') ?_
                rw [HRK.out]
                simp only [Act.put, List.setIfInBounds_toArray, List.set_cons_zero, List.set_cons_succ]
                repeat (first | (refine pi_take (v := _) rfl (fun W hW => by go_simp <;> exact rfl) ?_; simp only [Act.put, List.setIfInBounds_toArray, List.set_cons_zero, List.set_cons_succ]) | (refine pi_skip rfl ?_; simp only [Act.put, List.setIfInBounds_toArray, List.set_cons_zero, List.set_cons_succ]))
                refine pi_done ?_
                clear xc0 xc1 xc2 yc0 yc1 yc2
                go_wp2_with fail
                exact ⟨⟨k + 1, by rw [HST.out]; rfl, by go_num, by omega, HLU⟩, by simp [intOf]; omega⟩
              ·
                refine region_pi [(0, true), (1, true), (2, true), (3, true), (4, true), (5, true), (6, true), (7, true), (8, true), (9, true), (10, true), (11, true), (12, true), (13, true), (14, true)] (by kernel_rfl) (by kernel_rfl) ?_
                simp only [opsPi, List.filterMap_cons, List.filterMap_nil, List.getElem?_toArray, List.getElem?_cons_zero, List.getElem?_cons_succ, Option.map_some]
                rw [HU.out]
                repeat (first | (refine pi_take (v := _) rfl (fun W hW => by go_simp <;> exact rfl) ?_; simp only [Act.put, List.setIfInBounds_toArray, List.set_cons_zero, List.set_cons_succ]) | (refine pi_skip rfl ?_; simp only [Act.put, List.setIfInBounds_toArray, List.set_cons_zero, List.set_cons_succ]))
                refine pi_done ?_
                clear xc0 xc1 xc2 yc0 yc1 yc2
                go_wp2_with fail
                exact ⟨⟨k + 1, by rw [HST.out]; rfl, by go_num, by omega, HLU⟩, by simp [intOf]; omega⟩
            · obtain rfl : k = i := by omega
              rw [List.take_of_length_le (by rw [HLA.out]; exact Nat.le_refl _), HKX.out] at hbb
              subst hbb
              have hle : ¬ (k : Int) < k := by omega
              go_wp2_with fail
              exact ⟨⟨j + 1, by go_num, by omega, HLr⟩, by simp [intOf]; omega⟩
        · obtain rfl : j = n2 := by omega
          have hle : ¬ (j : Int) < j := by omega
          go_wp2_with fail
          go_ret
          exact ⟨rfl, HL4.out.trans HLj.out⟩
#print axioms grows_walk
end Go.Proofs.Ytjedpjfmlaganaa.vw
