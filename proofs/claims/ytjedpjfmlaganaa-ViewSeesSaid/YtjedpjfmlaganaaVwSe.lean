/-
  The law on what a list sees, walked.
-/
import Derived.Test.YtjedpjfmlaganaaVwRof
import Derived.Test.YtjedpjfmlaganaaVwSame
namespace Go.Proofs.Ytjedpjfmlaganaa.vw
open Go.RowKit
set_option linter.unusedVariables false

set_option maxRecDepth 100000 in
set_option maxHeartbeats 8000000 in
theorem sees_walk (w : World) (H : Int) (A RA GA : Option Addr) (n c rn rc gn gc : Nat) (ex : List Int) (rows : List Kd) (gone : List Gn) (hl : ex.length = n) (hnc : n ≤ c) (hc : c ≤ maxLen) (hr : Row w w.heap.size A (ints ex))
    (hrl : rows.length = rn) (hrc : rn ≤ rc) (hrm : rc ≤ maxLen) (hrr : Row w w.heap.size RA (kcs rows)) (hrk : ∀ x ∈ rows, KHas w w.heap.size x ∧ KeWf x.k)
    (hgl : gone.length = gn) (hgc : gn ≤ gc) (hgm : gc ≤ maxLen) (hgr : Row w w.heap.size GA (gcs gone)) (hgk : ∀ g ∈ gone, KeWf g.k) :
    Calls Try.prog 5 #[.agg #[.int .i64 H, .slice A n c], .slice RA rn rc, .slice GA gn gc] w fun e w' => e = .returned (.bool true) ∧ Below w.heap.size w w' := by
  obtain ⟨k2, hk2⟩ : ∃ k, min rn 60 = k := ⟨_, rfl⟩
  obtain ⟨g2, hg2⟩ : ∃ k, min gn 60 = k := ⟨_, rfl⟩
  obtain ⟨m2, hm2⟩ : ∃ k, min n 30 = k := ⟨_, rfl⟩
  have HRL := hide (show (rows.take 60).length = k2 by rw [List.length_take, hrl, ← hk2]; omega)
  have HGL := hide (show (gone.take 60).length = g2 by rw [List.length_take, hgl, ← hg2]; omega)
  have HEL := hide (show (ex.take 30).length = m2 by rw [List.length_take, hl, ← hm2]; omega)
  have hrr2 := hrr.take (60 * 4)
  rw [kcs_take] at hrr2
  have hgr2 := hgr.take (60 * 4)
  rw [gcs_take] at hgr2
  have hr2 := hr.take 30
  rw [ints_take] at hr2
  have HRK := hide (show ∀ x ∈ rows.take 60, KHas w w.heap.size x ∧ KeWf x.k from fun x hx => hrk x (List.mem_of_mem_take hx))
  have HGK := hide (show ∀ g ∈ gone.take 60, KeWf g.k from fun g hg => hgk g (List.mem_of_mem_take hg))
  generalize rows.take 60 = R at HRL hrr2 HRK
  generalize gone.take 60 = G at HGL hgr2 HGK
  generalize ex.take 30 = E at HEL hr2
  have HRR := hide hrr2
  have HGR := hide hgr2
  have HER := hide hr2
  have hk60 : k2 ≤ 60 := by omega
  have hg60 : g2 ≤ 60 := by omega
  have hm30 : m2 ≤ 30 := by omega
  have hff := hide (fun (W : World) => few_any W RA rn rc hrc hrm)
  have hll := hide (fun (W : World) => less_any W GA gn gc hgc hgm)
  have hss := hide (fun (W : World) => short_any W H A n c hnc hc)
  rw [hk2] at hff
  rw [hg2] at hll
  rw [hm2] at hss
  clear hl hr hrl hrr hrk hgl hgr hgk hrr2 hgr2 hr2 hk2 hg2 hm2
  have hof := hide (fun (W : World) (h : Le w W) => of_any W H A m2 c E HEL.out (by omega) ((h.row HER.out (Nat.le_refl _)).more h.size) RA k2 rc R HRL.out (by omega) ((h.row HRR.out (Nat.le_refl _)).more h.size) (fun x hx => ⟨((HRK.out x hx).1).on h (Nat.le_refl _) h.size, (HRK.out x hx).2⟩) GA g2 gc G HGL.out (by omega) ((h.row HGR.out (Nat.le_refl _)).more h.size) HGK.out)
  have hrf := hide (fun (W : World) (h : Le w W) => rof_any W H A m2 c E HEL.out (by omega) ((h.row HER.out (Nat.le_refl _)).more h.size) RA k2 rc R HRL.out (by omega) ((h.row HRR.out (Nat.le_refl _)).more h.size) GA g2 gc G HGL.out (by omega) ((h.row HGR.out (Nat.le_refl _)).more h.size))
  obtain ⟨X, hX, bX, hlX⟩ : ∃ X, w.alloc (.cells #[.int .i64 H, .slice A n c] 38) = X ∧ Box X w.heap.size #[.int .i64 H, .slice A n c] 38 ∧ Le w X := ⟨_, rfl, box_new _ _ _, (Below.refl _ _).alloc (Nat.le_refl _) _⟩
  have HX := hide hX
  have BX := hide bX
  have HLX := hide hlX
  have hsh := hide (shown_any X)
  clear hX bX hlX
  go_enter Try.func5, Try.ntmps5
  go_upto_region 1 with fail
  rw [HX.out]
  go_wp2_with fail
  refine hsh.out.mono ?_
  rintro e w1 ⟨rfl, hb⟩
  have HL1 := hide (HLX.out.trans hb)
  have BX1 := hide (BX.out.below hb BX.out.lt)
  clear hb hsh
  have c0 := BX1.out.cell 0 (.int .i64 H) rfl
  have c1 := BX1.out.cell 1 (.slice A n c) rfl
  go_wp2_with fail
  refine (hss.out w1).mono ?_
  rintro e w2 ⟨rfl, hb⟩
  have HL2 := hide (HL1.out.trans hb)
  have BX2 := hide (BX1.out.below hb BX1.out.lt)
  clear hb c0 c1 hss
  go_upto_region 3 with (refine wpList_store_row rfl 38 _ _ rfl w.heap.size #[.int .i64 H, .slice A m2 c] rfl rfl 38 _ BX2.out (by kernel_rfl) rfl (by simp [Value.oneCell']) ?_)
  obtain ⟨Z, hZ, bZ, hlZ⟩ : ∃ Z, w2.setRow w.heap.size #[.int .i64 H, .slice A m2 c] = Z ∧ Box Z w.heap.size #[.int .i64 H, .slice A m2 c] 38 ∧ Le w Z := ⟨_, rfl, setRow_heap _ _ _ _ _ _ BX2.out, below_setRow HL2.out (Nat.le_refl _) _⟩
  obtain ⟨V, hV⟩ : ∃ V, Z.drew = V := ⟨_, rfl⟩
  have HLV := hide (show Le w V by rw [← hV]; exact hlZ.drew)
  have bV := (show Box V w.heap.size #[.int .i64 H, .slice A m2 c] 38 by rw [← hV]; exact bZ.drew)
  have HV := hide (show (w2.setRow w.heap.size #[.int .i64 H, .slice A m2 c]).drew = V by rw [hZ]; exact hV)
  have e0 : ∀ W, Le V W → W.cell? ⟨w.heap.size, 0, none⟩ = some (.int .i64 H) := fun W h => bV.later 0 _ rfl W h
  have e1 : ∀ W, Le V W → W.cell? ⟨w.heap.size, 1, none⟩ = some (.slice A m2 c) := fun W h => bV.later 1 _ rfl W h
  clear hZ bZ hlZ hV bV
  refine region_pi [(0, true), (1, true), (3, true), (6, true), (7, true), (9, true), (2, false), (4, false), (5, false), (8, false), (10, false), (11, false), (12, false), (13, true)] (by kernel_rfl) (by kernel_rfl) ?_
  simp only [opsPi, List.filterMap_cons, List.filterMap_nil, List.getElem?_toArray, List.getElem?_cons_zero, List.getElem?_cons_succ, Option.map_some]
  rw [HV.out]
  repeat (first | (refine pi_take (v := _) rfl (fun W hW => by go_simp <;> exact rfl) ?_; simp only [Act.put, List.setIfInBounds_toArray, List.set_cons_zero, List.set_cons_succ]) | (refine pi_skip rfl ?_; simp only [Act.put, List.setIfInBounds_toArray, List.set_cons_zero, List.set_cons_succ]))
  clear e0 e1
  refine pi_run ?_
  go_wp2_with fail
  refine (hff.out _).mono ?_
  rintro e w' ⟨rfl, rfl⟩
  go_wp2_with fail
  refine ⟨Le.refl _, ?_⟩
  refine pi_run ?_
  go_wp2_with fail
  refine (hll.out _).mono ?_
  rintro e w' ⟨rfl, rfl⟩
  go_wp2_with fail
  refine ⟨Le.refl _, ?_⟩
  refine pi_run ?_
  go_wp2_with fail
  refine (hof.out V HLV.out).mono ?_
  rintro e w3 ⟨A1, n1, c1, S, rfl, h1, h2, h3, h4, h5, h6⟩
  have H1 := hide h1
  have H3 := hide h3
  have H4 := hide h4
  have H5 := hide h5
  have H6 := hide h6
  have HL3 := hide (HLV.out.trans h6)
  clear h1 h3 h4 h5 h6 hof
  go_wp2_with fail
  refine ⟨H6.out, ?_⟩
  refine pi_run ?_
  go_wp2_with fail
  refine (hff.out _).mono ?_
  rintro e w' ⟨rfl, rfl⟩
  go_wp2_with fail
  refine ⟨Le.refl _, ?_⟩
  refine pi_run ?_
  go_wp2_with fail
  refine (hll.out _).mono ?_
  rintro e w' ⟨rfl, rfl⟩
  go_wp2_with fail
  refine ⟨Le.refl _, ?_⟩
  refine pi_run ?_
  go_wp2_with fail
  refine (hrf.out w3 HL3.out).mono ?_
  rintro e w4 ⟨q1, q2, q3, rfl, j1, j2, j3, j4⟩
  have J4 := hide j4
  have HL4 := hide (HL3.out.trans j4)
  have hsame := firsts_one H3.out (fold_firsts (R.filter (seen H E G)))
  have hlen : q2 = n1 := by
    have := congrArg List.length hsame
    rw [List.length_map, List.length_map, H1.out, ← j1] at this
    exact this.symm
  subst hlen
  have hsm := hide (same_any w4 A1 (some ⟨q1, 0, none⟩) q2 c1 q3 S _ H1.out (by omega) hsame ((j4.row (Row.of_own H4.out) (Nat.le_refl _)).more j4.size) (Row.of_own j3) (fun x hx => (H5.out x hx).on j4 (Nat.le_refl _) j4.size) (fun x hx => ((HRK.out x (List.mem_filter.1 (fold_mem hx)).1).1).on HL4.out (Nat.le_refl _) HL4.out.size))
  clear j1 j3 j4 hsame hrf
  go_wp2_with fail
  refine ⟨J4.out, ?_⟩
  refine pi_run ?_
  go_wp2_with fail
  refine hsm.out.mono ?_
  rintro e w5 ⟨rfl, hb⟩
  have HL5 := hide (HL4.out.trans hb)
  have HB5 := hide (show Le w4 w5 from hb)
  clear hb hsm
  go_wp2_with fail
  refine ⟨HB5.out, ?_⟩
  repeat (first | (refine pi_take (v := _) rfl (fun W hW => by go_simp <;> exact rfl) ?_; simp only [Act.put, List.setIfInBounds_toArray, List.set_cons_zero, List.set_cons_succ]) | (refine pi_skip rfl ?_; simp only [Act.put, List.setIfInBounds_toArray, List.set_cons_zero, List.set_cons_succ]))
  refine pi_done ?_
  go_wp2_with fail
  go_ret
  exact ⟨rfl, HL5.out⟩
#print axioms sees_walk
end Go.Proofs.Ytjedpjfmlaganaa.vw
