/-
  The document's choice of directories, walked.
-/
import Derived.Test.YtnihladjafnjpaaPlD
namespace Go.Proofs.Ytnihladjafnjpaa
open Go.RowKit
set_option linter.unusedVariables false

theorem base_bb (most : Int) (ob : Option dr.Dr) (u : dr.Dr) : dr.baseStep most ob u = if dr.mayD u && (decide (u.k = 1) && (decide (u.t ≤ most) && (match ob with | none => true | some b => decide (b.t < u.t)))) then some u else ob := by
  unfold dr.baseStep dr.cand
  cases dr.mayD u
  · simp
  · cases ob with
    | none =>
      simp
    | some b =>
      by_cases h1 : u.k = 1 <;> by_cases h2 : u.t ≤ most <;> by_cases h3 : b.t < u.t <;> simp [h1, h2, h3]
theorem take_snoc {l : List dr.Dr} {j : Nat} {u : dr.Dr} (h : l[j]? = some u) : l.take (j + 1) = l.take j ++ [u] := by
  rw [List.take_add_one, h]; rfl

/-- How many stand behind. -/
def cnt (l : List dr.Dr) (x : Int) : Nat := (l.filter fun d => decide (x < d.f)).length
theorem cnt_le (l : List dr.Dr) (x : Int) : cnt l x ≤ l.length := List.length_filter_le _ _
theorem cnt_lt : ∀ {l : List dr.Dr} {x : Int} {d : dr.Dr}, d ∈ l → x < d.f → d.f ≤ d.t → cnt l d.t < cnt l x
  | [], x, d, h, _, _ => by cases h
  | a :: l, x, d, h, h1, h2 => by
    have mono : ∀ l : List dr.Dr, cnt l d.t ≤ cnt l x := fun l => by
      induction l with
      | nil => exact Nat.le_refl _
      | cons a l ih =>
        unfold cnt at ih ⊢
        rw [List.filter_cons, List.filter_cons]
        by_cases c1 : d.t < a.f
        · rw [if_pos (decide_eq_true c1), if_pos (decide_eq_true (show x < a.f by omega))]
          simp only [List.length_cons]
          omega
        · rw [if_neg (by simpa using c1)]
          split
          · simp only [List.length_cons]; omega
          · exact ih
    rcases List.mem_cons.1 h with rfl | h
    · have m := mono l
      unfold cnt at m ⊢
      rw [List.filter_cons, List.filter_cons, if_neg (by simp; omega), if_pos (decide_eq_true h1)]
      simp only [List.length_cons]
      omega
    · have ih := cnt_lt h h1 h2
      unfold cnt at ih ⊢
      rw [List.filter_cons, List.filter_cons]
      by_cases c1 : d.t < a.f
      · rw [if_pos (decide_eq_true c1), if_pos (decide_eq_true (show x < a.f by omega))]
        simp only [List.length_cons]
        omega
      · rw [if_neg (by simpa using c1)]
        split
        · simp only [List.length_cons]; omega
        · exact ih
theorem next_bb (most x : Int) (ob : Option dr.Dr) (u : dr.Dr) : dr.nextStep most x ob u = if dr.mayD u && (decide (u.k = 2) && (decide (x < u.f) && decide (u.t ≤ most))) then (match ob with | none => some u | some b => if u.f < b.f ∨ u.f = b.f ∧ b.t < u.t then some u else some b) else ob := by
  unfold dr.nextStep dr.cand
  cases dr.mayD u
  · simp
  · cases ob <;> by_cases h1 : u.k = 2 <;> by_cases h2 : u.t ≤ most <;> by_cases h3 : x < u.f <;> simp [h1, h2, h3]
theorem own_lt {w : World} {base size n : Nat} {e : TypeId} {v : Value} {xs : List Value} (h : w.ownsRow base e size v n xs) {g : Nat} (hg : v.ownBlock = some g) : g < w.heap.size := by
  rcases h.2 with ⟨rfl, -⟩ | ⟨g', cap, cur, rfl, a1, a2, -⟩
  · cases hg
  · simp only [Value.ownBlock, Option.some.injEq] at hg
    subst hg
    exact (Array.getElem?_eq_some_iff.1 a2).1
def better (ob : Option dr.Dr) (u : dr.Dr) : Bool := match ob with | none => true | some b => decide (u.f < b.f) || ((u.f == b.f) && decide (b.t < u.t))
theorem next_bt (most x : Int) (ob : Option dr.Dr) (u : dr.Dr) : dr.nextStep most x ob u = if dr.mayD u && (decide (u.k = 2) && (decide (x < u.f) && decide (u.t ≤ most))) then (if better ob u then some u else ob) else ob := by
  rw [next_bb]
  congr 1
  cases ob with
  | none => rfl
  | some b =>
    simp only [better]
    congr 1
    simp
def bestD (ob : Option dr.Dr) : dr.Dr := ob.getD ⟨0, 0, 0⟩
theorem best_zero {l : List dr.Dr} {most x : Int} {ob : Option dr.Dr} (h : dr.Next l most x ob) : ((bestD ob).k == 0) = ob.isNone := by
  cases ob with
  | none => rfl
  | some d =>
    have := (dr.cand_iff.1 h.2.1).1
    show (d.k == 0) = false
    rw [this]
    rfl

set_option maxRecDepth 100000 in
set_option maxHeartbeats 8000000 in
theorem refchosen_any (w : World) (A : Option Addr) (n c : Nat) (l : List dr.Dr) (most : Int) (hl : l.length = n) (hn : n ≤ 1000) (hr : Row w w.heap.size A (dcs l)) :
    Calls Try.prog 35 #[.slice A n c, .int .i64 most] w fun e w' => ∃ v o, e = .returned v ∧ dr.Chosen l most o ∧ w'.ownsRow w.heap.size 41 3 v o.length (dcs o) ∧ Below w.heap.size w w' := by
  have HL := hide hl
  have HR := hide hr
  obtain ⟨W0, hW0⟩ : ∃ W, w.alloc (.cells #[] 41) = W := ⟨_, rfl⟩
  have HOW := hide (show W0.ownsRow w.heap.size 41 3 (.slice (some ⟨w.heap.size, 0, none⟩) 0 0) 0 (dcs (none : Option dr.Dr).toList) by
    rw [← hW0]
    exact World.ownsRow_lit (base := w.heap.size) (e := 41) (size := 3) w #[] 0 (by simp) (by simp) rfl)
  have HB0 := hide (show Le w W0 by rw [← hW0]; exact (Below.refl _ _).alloc (Nat.le_refl _) _)
  have HW0 := hide hW0
  clear hl hr hW0
  go_enter Try.func35, Try.ntmps35
  go_upto_region 2 with fail
  rw [HW0.out]
  go_wp2_with fail
  go_loopw [5, 6] (fun s i wr => ∃ (j k cs : Nat) (As : Option Addr) (ob : Option dr.Dr), i = .int .i64 j ∧ j ≤ n ∧ s = .slice As k cs ∧ Hid (k = ob.toList.length) ∧ Hid (dr.TopB (l.take j) most ob) ∧ Hid (wr.ownsRow w.heap.size 41 3 (.slice As k cs) k (dcs ob.toList)) ∧ Hid (Le w wr)) (fun _ i _ => n - (intOf i).toNat)
  case atStart => exact ⟨0, 0, _, _, none, rfl, Nat.zero_le _, rfl, hide rfl, hide (fun e he => by simp at he), HOW, HB0⟩
  case round =>
    obtain ⟨j, k, cs, As, ob, rfl, hj, rfl, HK, HTB, HO, HB⟩ := hrel
    by_cases hjn : j < n
    · obtain ⟨⟨uk, uf, ut⟩, hu⟩ : ∃ u, l[j]? = some u := ⟨_, List.getElem?_eq_getElem (by rw [HL.out]; exact hjn)⟩
      obtain ⟨bA, oA, rfl, hbA, r0, r1, r2⟩ := row_dr HR.out hu
      simp only at r0 r1 r2
      have e0 : wr.cell? ⟨bA, oA + j * 3, none⟩ = some (.int .i64 uk) := (HB.out.cell (p := ⟨bA, oA + j * 3, none⟩) hbA).trans r0
      have e1 : wr.cell? ⟨bA, oA + j * 3 + 1, none⟩ = some (.int .i64 uf) := (HB.out.cell (p := ⟨bA, oA + j * 3 + 1, none⟩) hbA).trans r1
      have e2 : wr.cell? ⟨bA, oA + j * 3 + 2, none⟩ = some (.int .i64 ut) := (HB.out.cell (p := ⟨bA, oA + j * 3 + 2, none⟩) hbA).trans r2
      have hnj : (j : Int) < n := by omega
      have hmy := hide (fun (W : World) => refdmay_any W ⟨uk, uf, ut⟩)
      obtain ⟨my, hmy'⟩ : ∃ b, dr.mayD ⟨uk, uf, ut⟩ = b := ⟨_, rfl⟩
      rw [hmy'] at hmy
      have HST := hide (base_bb most ob ⟨uk, uf, ut⟩)
      have HTB2 := hide (show dr.TopB (l.take (j + 1)) most (dr.baseStep most ob ⟨uk, uf, ut⟩) by rw [take_snoc hu]; exact dr.base_step HTB.out)
      rw [hmy'] at HST
      have HC := hide (fun (W : World) (h : Le w W) => And.intro ((h.cell (p := ⟨bA, oA + j * 3, none⟩) hbA).trans r0) (And.intro ((h.cell (p := ⟨bA, oA + j * 3 + 1, none⟩) hbA).trans r1) ((h.cell (p := ⟨bA, oA + j * 3 + 2, none⟩) hbA).trans r2)))
      clear hu r0 r1 r2 hmy'
      simp only at hmy
      go_wp2_with fail
      refine (hmy.out wr).mono ?_
      rintro e w1 ⟨rfl, hb⟩
      have HL1 := hide (show Le w w1 from HB.out.trans hb)
      have HO1 := hide (own_below HO.out hb)
      clear hb e0 e1 e2
      obtain ⟨p1, hp1⟩ : ∃ b, (uk == 1) = b := ⟨_, rfl⟩
      obtain ⟨p2, hp2⟩ : ∃ b, decide (ut ≤ most) = b := ⟨_, rfl⟩
      have hp1' : decide (uk = 1) = p1 := by rw [← hp1]; rfl
      obtain ⟨p3, hp3⟩ : ∃ b, (match ob with | none => true | some b => decide (b.t < ut)) = b := ⟨_, rfl⟩
      have HBB := hide (show dr.baseStep most ob ⟨uk, uf, ut⟩ = if my && (p1 && (p2 && p3)) then some ⟨uk, uf, ut⟩ else ob by
        rw [HST.out, ← hp1', ← hp2, ← hp3])
      clear hp1' HST
      go_upto_region 6 with fail
      obtain ⟨V, hV⟩ : ∃ V, w1.drew = V := ⟨_, rfl⟩
      have HLV := hide (show Le w V by rw [← hV]; exact HL1.out.drew)
      have HOV := hide (show V.ownsRow w.heap.size 41 3 (.slice As k cs) k (dcs ob.toList) by rw [← hV]; exact own_below HO1.out (Below.refl _ _).drew)
      have HV := hide hV
      clear hV
      go_cut [59] (fun s wx => s = .bool (my && (p1 && (p2 && p3))) ∧ V = wx)
      case first =>
        have c0 : ∀ W, Le V W → W.cell? ⟨bA, oA + j * 3, none⟩ = some (.int .i64 uk) := fun W h => (HC.out W (HLV.out.trans h)).1
        have c2 : ∀ W, Le V W → W.cell? ⟨bA, oA + j * 3 + 2, none⟩ = some (.int .i64 ut) := fun W h => (HC.out W (HLV.out.trans h)).2.2
        cases my
        ·
          refine region_pi [(0, true), (1, true), (2, true), (3, true), (4, true), (5, true), (6, true), (7, true), (8, true), (9, true), (10, true), (11, true), (12, true), (13, true), (14, true), (15, true), (16, true), (17, true), (18, true), (19, true), (20, true), (21, true), (22, true), (23, true), (24, true), (25, true), (26, true), (27, true), (28, true), (29, true), (30, true), (31, true), (32, true), (33, true), (34, true)] (by kernel_rfl) (by kernel_rfl) ?_
          simp only [opsPi, List.filterMap_cons, List.filterMap_nil, List.getElem?_toArray, List.getElem?_cons_zero, List.getElem?_cons_succ, Option.map_some]
          rw [HV.out]
          repeat (first | (refine pi_take (v := _) rfl (fun W hW => by go_simp <;> exact rfl) ?_; simp only [Act.put, List.setIfInBounds_toArray, List.set_cons_zero, List.set_cons_succ]) | (refine pi_skip rfl ?_; simp only [Act.put, List.setIfInBounds_toArray, List.set_cons_zero, List.set_cons_succ]))
          refine pi_done ?_
          go_wp2_with fail
          go_meet
          exact ⟨rfl, rfl⟩
        · cases p1
          ·
            refine region_pi [(0, true), (1, true), (2, true), (3, true), (4, true), (5, true), (6, true), (7, true), (8, true), (9, true), (10, true), (11, true), (12, true), (13, true), (14, true), (15, true), (16, true), (17, true), (18, true), (19, true), (20, true), (21, true), (22, true), (23, true), (24, true), (25, true), (26, true), (27, true), (28, true), (29, true), (30, true), (31, true), (32, true), (33, true), (34, true)] (by kernel_rfl) (by kernel_rfl) ?_
            simp only [opsPi, List.filterMap_cons, List.filterMap_nil, List.getElem?_toArray, List.getElem?_cons_zero, List.getElem?_cons_succ, Option.map_some]
            rw [HV.out]
            repeat (first | (refine pi_take (v := _) rfl (fun W hW => by go_simp <;> exact rfl) ?_; simp only [Act.put, List.setIfInBounds_toArray, List.set_cons_zero, List.set_cons_succ]) | (refine pi_skip rfl ?_; simp only [Act.put, List.setIfInBounds_toArray, List.set_cons_zero, List.set_cons_succ]))
            refine pi_done ?_
            go_wp2_with fail
            go_meet
            exact ⟨rfl, rfl⟩
          · cases p2
            ·
              refine region_pi [(0, true), (1, true), (2, true), (3, true), (4, true), (5, true), (6, true), (7, true), (8, true), (9, true), (10, true), (11, true), (12, true), (13, true), (14, true), (15, true), (16, true), (17, true), (18, true), (19, true), (20, true), (21, true), (22, true), (23, true), (24, true), (25, true), (26, true), (27, true), (28, true), (29, true), (30, true), (31, true), (32, true), (33, true), (34, true)] (by kernel_rfl) (by kernel_rfl) ?_
              simp only [opsPi, List.filterMap_cons, List.filterMap_nil, List.getElem?_toArray, List.getElem?_cons_zero, List.getElem?_cons_succ, Option.map_some]
              rw [HV.out]
              repeat (first | (refine pi_take (v := _) rfl (fun W hW => by go_simp <;> exact rfl) ?_; simp only [Act.put, List.setIfInBounds_toArray, List.set_cons_zero, List.set_cons_succ]) | (refine pi_skip rfl ?_; simp only [Act.put, List.setIfInBounds_toArray, List.set_cons_zero, List.set_cons_succ]))
              refine pi_done ?_
              go_wp2_with fail
              go_meet
              exact ⟨rfl, rfl⟩
            · cases ob with
              | none =>
                obtain rfl : k = 0 := HK.out
                obtain rfl : p3 = true := hp3.symm
                refine region_pi [(0, true), (1, true), (2, true), (3, true), (4, true), (5, true), (6, true), (7, true), (8, true), (9, true), (10, true), (11, true), (12, true), (13, true), (14, true), (15, true), (16, true), (17, true), (18, true), (19, true), (20, true), (21, true), (22, true), (23, true), (24, true), (25, true), (26, true), (27, true), (28, true), (29, true), (30, true), (31, true), (32, true), (33, true), (34, true)] (by kernel_rfl) (by kernel_rfl) ?_
                simp only [opsPi, List.filterMap_cons, List.filterMap_nil, List.getElem?_toArray, List.getElem?_cons_zero, List.getElem?_cons_succ, Option.map_some]
                rw [HV.out]
                repeat (first | (refine pi_take (v := _) rfl (fun W hW => by go_simp <;> exact rfl) ?_; simp only [Act.put, List.setIfInBounds_toArray, List.set_cons_zero, List.set_cons_succ]) | (refine pi_skip rfl ?_; simp only [Act.put, List.setIfInBounds_toArray, List.set_cons_zero, List.set_cons_succ]))
                refine pi_done ?_
                go_wp2_with fail
                go_meet
                exact ⟨rfl, rfl⟩
              | some b =>
                obtain rfl : k = 1 := HK.out
                obtain ⟨bO, oO, rfl, hbO, -, -, s2⟩ := row_dr (l := [b]) (k := 0) (Row.of_own HOV.out) rfl
                have s2' : V.cell? ⟨bO, oO + 2, none⟩ = some (.int .i64 b.t) := by simpa using s2
                have c3 : ∀ W, Le V W → W.cell? ⟨bO, oO + 2, none⟩ = some (.int .i64 b.t) := fun W h => (h.cell (p := ⟨bO, oO + 2, none⟩) hbO).trans s2'
                have hp3' : decide (b.t < ut) = p3 := hp3
                clear s2 s2' hp3
                refine region_pi [(0, true), (1, true), (2, true), (3, true), (4, true), (5, true), (6, true), (7, true), (8, true), (9, true), (10, true), (11, true), (12, true), (13, true), (14, true), (15, true), (16, true), (17, true), (18, true), (19, true), (20, true), (21, true), (22, true), (23, true), (24, true), (25, true), (26, true), (27, true), (28, true), (29, true), (30, true), (31, true), (32, true), (33, true), (34, true)] (by kernel_rfl) (by kernel_rfl) ?_
                simp only [opsPi, List.filterMap_cons, List.filterMap_nil, List.getElem?_toArray, List.getElem?_cons_zero, List.getElem?_cons_succ, Option.map_some]
                rw [HV.out]
                repeat (first | (refine pi_take (v := _) rfl (fun W hW => by go_simp <;> exact rfl) ?_; simp only [Act.put, List.setIfInBounds_toArray, List.set_cons_zero, List.set_cons_succ]) | (refine pi_skip rfl ?_; simp only [Act.put, List.setIfInBounds_toArray, List.set_cons_zero, List.set_cons_succ]))
                refine pi_done ?_
                go_wp2_with fail
                go_meet
                exact ⟨rfl, rfl⟩
      case rest =>
        obtain ⟨rfl, rfl⟩ := hcut
        obtain ⟨bb, hbb⟩ : ∃ b, (my && (p1 && (p2 && p3))) = b := ⟨_, rfl⟩
        rw [hbb] at HBB ⊢
        rw [HBB.out] at HTB2
        clear hbb hp1 hp2 hp3
        cases bb
        · go_wp2_with fail
          exact ⟨⟨j + 1, k, cs, As, ob, by go_num, by omega, rfl, HK, HTB2, HOV, HLV⟩, by simp [intOf]; omega⟩
        · have c0 := (HC.out V HLV.out).1
          have c1 := (HC.out V HLV.out).2.1
          have c2 := (HC.out V HLV.out).2.2
          go_wp2_with fail
          have HO3 := hide (show (V.alloc (.cells #[.int .i64 uk, .int .i64 uf, .int .i64 ut] 41)).ownsRow w.heap.size 41 3 (.slice (some ⟨V.heap.size, 0, none⟩) 1 1) 1 (dcs (some (⟨uk, uf, ut⟩ : dr.Dr)).toList) from World.ownsRow_lit (base := w.heap.size) (e := 41) (size := 3) V #[.int .i64 uk, .int .i64 uf, .int .i64 ut] 1 HLV.out.size (by simp only [maxLen]; omega) rfl)
          exact ⟨⟨j + 1, 1, 1, _, some ⟨uk, uf, ut⟩, by go_num, by omega, rfl, hide rfl, HTB2, HO3, hide (HLV.out.alloc HLV.out.size _)⟩, by simp [intOf]; omega⟩
    · obtain rfl : j = n := by omega
      have hall : l.take j = l := List.take_of_length_le (by rw [HL.out]; exact Nat.le_refl _)
      rw [hall] at HTB
      clear hall
      obtain ⟨Y, rfl⟩ : ∃ Y, Y = wr := ⟨_, rfl⟩
      obtain ⟨n0, hn0⟩ : ∃ x, (match ob with | none => (0 : Int) | some b => b.t) = x := ⟨_, rfl⟩
      go_upto_region 9 with fail
      go_upto_if 67 with fail
      go_cut [8] (fun s wx => s = .int .i64 n0 ∧ Y = wx)
      case first =>
        cases ob with
        | none =>
          obtain rfl : k = 0 := HK.out
          obtain rfl : n0 = 0 := hn0.symm
          go_wp2_with fail
          go_meet
          exact ⟨rfl, rfl⟩
        | some b =>
          obtain rfl : k = 1 := HK.out
          obtain rfl : n0 = b.t := hn0.symm
          obtain ⟨bO, oO, rfl, hbO, -, -, s2⟩ := row_dr (l := [b]) (k := 0) (Row.of_own HO.out) rfl
          have s2' : Y.cell? ⟨bO, oO + 2, none⟩ = some (.int .i64 b.t) := by simpa using s2
          go_wp2_with fail
          go_meet
          exact ⟨rfl, rfl⟩
      case rest =>
        obtain ⟨rfl, rfl⟩ := hcut
        have HCH := hide (show ∀ o2, dr.Chain l most n0 o2 → dr.Chosen l most (ob.toList ++ o2) from fun o2 h => by
          cases ob with
          | none => rw [← hn0] at h; exact .inl ⟨HTB.out, h⟩
          | some b => rw [← hn0] at h; exact .inr ⟨b, o2, HTB.out, rfl, h⟩)
        have hk1 : k ≤ 1 := by
          rw [HK.out]
          cases ob <;> simp
        have hcnt := cnt_le l n0
        rw [HL.out] at hcnt
        obtain ⟨o0, ho0⟩ : ∃ o, ob.toList = o := ⟨_, rfl⟩
        rw [ho0] at HO HCH HK
        clear hn0 HTB ho0
        go_wp2_with fail
        go_loopw [5, 8] (fun s nn wr => ∃ (k cs : Nat) (As : Option Addr) (x : Int) (o1 : List dr.Dr), nn = .int .i64 x ∧ s = .slice As k cs ∧ k + cnt l x ≤ j + 1 ∧ Hid (k = o1.length) ∧ Hid (∀ o2, dr.Chain l most x o2 → dr.Chosen l most (o1 ++ o2)) ∧ Hid (wr.ownsRow w.heap.size 41 3 (.slice As k cs) k (dcs o1)) ∧ Hid (Le w wr)) (fun _ nn _ => cnt l (intOf nn))
        case atStart => exact ⟨k, cs, As, n0, o0, rfl, rfl, by omega, HK, HCH, HO, HB⟩
        case round =>
          clear HO HB HK HCH hk1 hcnt
          obtain ⟨k, cs, As, x, o1, rfl, rfl, hkc, HK, HCH, HO, HB⟩ := hrel
          obtain ⟨Z, rfl⟩ : ∃ Z, Z = wr := ⟨_, rfl⟩
          go_upto_region 12 with fail
          obtain ⟨X1, hX1, b1, hl1⟩ : ∃ X, Z.alloc (.cells #[.int .i64 0, .int .i64 0, .int .i64 0] 41) = X ∧ Box X Z.heap.size (dcell (bestD none)) 41 ∧ Le Z X := ⟨_, rfl, box_new _ _ _, (Below.refl _ _).alloc (Nat.le_refl _) _⟩
          rw [hX1]
          have B1 := hide b1
          have HL1 := hide hl1
          clear hX1 b1 hl1
          go_wp2_with fail
          go_loopw [10] (fun i wr => ∃ (j' : Nat) (ob : Option dr.Dr), i = .int .i64 j' ∧ j' ≤ j ∧ Hid (dr.Next (l.take j') most x ob) ∧ Hid (Box wr Z.heap.size (dcell (bestD ob)) 41) ∧ Hid (Le Z wr)) (fun i _ => j - (intOf i).toNat)
          case atStart => exact ⟨0, none, rfl, Nat.zero_le _, hide (fun e he => by simp at he), B1, HL1⟩
          case round =>
            obtain ⟨i, ob, rfl, hi, HNX, BG, HLi⟩ := hrel
            have HBi := hide (HB.out.trans HLi.out)
            by_cases hin : i < j
            · obtain ⟨⟨uk, uf, ut⟩, hu⟩ : ∃ u, l[i]? = some u := ⟨_, List.getElem?_eq_getElem (by rw [HL.out]; exact hin)⟩
              obtain ⟨bA, oA, rfl, hbA, r0, r1, r2⟩ := row_dr HR.out hu
              simp only at r0 r1 r2
              have e0 : wr.cell? ⟨bA, oA + i * 3, none⟩ = some (.int .i64 uk) := (HBi.out.cell (p := ⟨bA, oA + i * 3, none⟩) hbA).trans r0
              have e1 : wr.cell? ⟨bA, oA + i * 3 + 1, none⟩ = some (.int .i64 uf) := (HBi.out.cell (p := ⟨bA, oA + i * 3 + 1, none⟩) hbA).trans r1
              have e2 : wr.cell? ⟨bA, oA + i * 3 + 2, none⟩ = some (.int .i64 ut) := (HBi.out.cell (p := ⟨bA, oA + i * 3 + 2, none⟩) hbA).trans r2
              have hnj : (i : Int) < j := by omega
              have hmy := hide (fun (W : World) => refdmay_any W ⟨uk, uf, ut⟩)
              obtain ⟨my, hmy'⟩ : ∃ b, dr.mayD ⟨uk, uf, ut⟩ = b := ⟨_, rfl⟩
              rw [hmy'] at hmy
              have HST := hide (next_bt most x ob ⟨uk, uf, ut⟩)
              rw [hmy'] at HST
              have HNX2 := hide (show dr.Next (l.take (i + 1)) most x (dr.nextStep most x ob ⟨uk, uf, ut⟩) by rw [take_snoc hu]; exact dr.next_step HNX.out)
              have hz := best_zero HNX.out
              clear hu r0 r1 r2 hmy'
              simp only at hmy
              go_upto_region 16 with fail
              obtain ⟨X2, hX2, b2, hl2⟩ : ∃ X, wr.alloc (.cells #[.int .i64 uk, .int .i64 uf, .int .i64 ut] 41) = X ∧ Box X wr.heap.size #[.int .i64 uk, .int .i64 uf, .int .i64 ut] 41 ∧ Le wr X := ⟨_, rfl, box_new _ _ _, (Below.refl _ _).alloc (Nat.le_refl _) _⟩
              rw [hX2]
              have HL2 := hide (HLi.out.trans hl2)
              have B2 := hide b2
              have BG2 := hide (BG.out.below hl2 BG.out.lt)
              have u0 := b2.cell 0 (.int .i64 uk) rfl
              have u1 := b2.cell 1 (.int .i64 uf) rfl
              have u2 := b2.cell 2 (.int .i64 ut) rfl
              clear hX2 b2 hl2 e0 e1 e2 BG
              go_wp2_with fail
              refine (hmy.out X2).mono ?_
              rintro e w3 ⟨rfl, hb⟩
              have HL3 := hide (HL2.out.trans hb)
              have B3 := hide (B2.out.below hb B2.out.lt)
              have BG3 := hide (BG2.out.below hb BG2.out.lt)
              clear hb u0 u1 u2 B2 BG2
              have u0 := B3.out.cell 0 (.int .i64 uk) rfl
              have u1 := B3.out.cell 1 (.int .i64 uf) rfl
              have u2 := B3.out.cell 2 (.int .i64 ut) rfl
              obtain ⟨p1, hp1⟩ : ∃ b, (uk != 2) = b := ⟨_, rfl⟩
              obtain ⟨p2, hp2⟩ : ∃ b, decide (uf ≤ x) = b := ⟨_, rfl⟩
              obtain ⟨p3, hp3⟩ : ∃ b, decide (most < ut) = b := ⟨_, rfl⟩
              have HBB := hide (show dr.nextStep most x ob ⟨uk, uf, ut⟩ = if !(!my || (p1 || (p2 || p3))) then (if better ob ⟨uk, uf, ut⟩ then some ⟨uk, uf, ut⟩ else ob) else ob by
                rw [HST.out, ← hp1, ← hp2, ← hp3]
                congr 1
                rw [eq_iff_iff]
                cases my <;> simp)
              clear HST
              go_upto_region 17 with fail
              go_cut [103] (fun s wx => s = .bool (!my || (p1 || (p2 || p3))) ∧ w3 = wx)
              case first =>
                cases my <;> cases p1 <;> cases p2
                all_goals
                  go_wp2_with fail
                  go_meet
                  exact ⟨rfl, rfl⟩
              case rest =>
                obtain ⟨rfl, rfl⟩ := hcut
                obtain ⟨sk, hsk⟩ : ∃ b, (!my || (p1 || (p2 || p3))) = b := ⟨_, rfl⟩
                rw [hsk] at HBB ⊢
                rw [HBB.out] at HNX2
                clear hsk hp1 hp2 hp3 HBB
                cases sk
                · obtain ⟨bt, hbt⟩ : ∃ b, better ob ⟨uk, uf, ut⟩ = b := ⟨_, rfl⟩
                  rw [hbt] at HNX2
                  go_upto_region 18 with fail
                  go_cut [127] (fun s wx => s = .bool bt ∧ w3 = wx)
                  case first =>
                    cases ob with
                    | none =>
                      obtain rfl : bt = true := hbt.symm
                      have g0 := BG3.out.cell 0 (.int .i64 0) rfl
                      have g1 := BG3.out.cell 1 (.int .i64 0) rfl
                      have g2 := BG3.out.cell 2 (.int .i64 0) rfl
                      go_wp2_with fail
                      go_meet
                      exact ⟨rfl, rfl⟩
                    | some b =>
                      obtain ⟨bk, bf, bt2⟩ := b
                      have g0 := BG3.out.cell 0 (.int .i64 bk) rfl
                      have g1 := BG3.out.cell 1 (.int .i64 bf) rfl
                      have g2 := BG3.out.cell 2 (.int .i64 bt2) rfl
                      have hz' : (bk == 0) = false := hz
                      obtain ⟨c1, hc1⟩ : ∃ b, decide (uf < bf) = b := ⟨_, rfl⟩
                      obtain ⟨c2, hc2⟩ : ∃ b, (uf == bf) = b := ⟨_, rfl⟩
                      obtain ⟨c3, hc3⟩ : ∃ b, decide (bt2 < ut) = b := ⟨_, rfl⟩
                      have hbt' : bt = (c1 || (c2 && c3)) := by rw [← hbt, ← hc1, ← hc2, ← hc3]; rfl
                      subst hbt'
                      clear hbt hz
                      cases c1 <;> cases c2
                      all_goals
                        go_wp2_with fail
                        go_meet
                        exact ⟨rfl, rfl⟩
                  case rest =>
                    obtain ⟨rfl, rfl⟩ := hcut
                    clear hz hbt
                    cases bt
                    · go_wp2_with fail
                      exact ⟨⟨i + 1, ob, by go_num, by omega, HNX2, BG3, HL3⟩, by simp [intOf]; omega⟩
                    · go_wp2_with (refine wpList_store_row rfl 41 _ _ rfl Z.heap.size (dcell ⟨uk, uf, ut⟩) rfl rfl 41 _ BG3.out (by kernel_rfl) rfl (dr_one ⟨uk, uf, ut⟩) ?_)
                      exact ⟨⟨i + 1, some ⟨uk, uf, ut⟩, by go_num, by omega, HNX2, hide (setRow_heap _ _ _ _ _ _ BG3.out), hide (below_setRow HL3.out (Nat.le_refl _) _)⟩, by simp [intOf]; omega⟩
                · go_wp2_with fail
                  exact ⟨⟨i + 1, ob, by go_num, by omega, HNX2, BG3, HL3⟩, by simp [intOf]; omega⟩
            · obtain rfl : i = j := by omega
              have hall : l.take i = l := List.take_of_length_le (by rw [HL.out]; exact Nat.le_refl _)
              rw [hall] at HNX
              have hz := best_zero HNX.out
              obtain ⟨X, rfl⟩ : ∃ X, X = wr := ⟨_, rfl⟩
              have HO1 := hide (own_below HO.out HLi.out)
              have c0 := BG.out.cell 0 (.int .i64 (bestD ob).k) rfl
              have c1 := BG.out.cell 1 (.int .i64 (bestD ob).f) rfl
              have c2 := BG.out.cell 2 (.int .i64 (bestD ob).t) rfl
              clear hall
              cases ob with
              | none =>
                have HFIN := hide (HCH.out [] (.done HNX.out))
                go_wp2_with fail
                go_ret
                exact ⟨_, o1, rfl, by have h := HFIN.out; rwa [List.append_nil] at h, by rw [← HK.out]; exact HO1.out, HBi.out⟩
              | some d =>
                obtain ⟨dk, df, dt⟩ := d
                have g0 := BG.out.cell 0 (.int .i64 dk) rfl
                have g1 := BG.out.cell 1 (.int .i64 df) rfl
                have g2 := BG.out.cell 2 (.int .i64 dt) rfl
                have hz' : (dk == 0) = false := hz
                have hlt := cnt_lt HNX.out.1 HNX.out.2.2.1 (dr.may_facts (dr.cand_iff.1 HNX.out.2.1).2.1).2.2.1
                simp only at hlt
                have HCH2 := hide (show ∀ o2, dr.Chain l most dt o2 → dr.Chosen l most (o1 ++ [⟨dk, df, dt⟩] ++ o2) from fun o2 h => by
                  rw [List.append_assoc]
                  exact HCH.out _ (.more HNX.out h))
                have hzX := HBi.out.size
                clear c0 c1 c2 hz
                go_wp2_with (at_builtin; refine wpList_append_row _ rfl (.tmp 133) (.tmp 135) 35 rfl w.heap.size 41 infoD Try.underlying35 rfl (by omega) (.slice As k cs) k _ rfl (HO1.out.alloc _) _ (some ⟨X.heap.size, 0, none⟩) 1 1 (dcs [⟨dk, df, dt⟩]) rfl rfl (row_new X #[.int .i64 dk, .int .i64 df, .int .i64 dt] _ (0, 0)) dcs_one (by simp only [maxLen]; omega) (by omega) (by simp; omega) ?_; intro v' w' hown' hg hat; obtain ⟨A1, c1, rfl, -, -⟩ := own_form hown'; have HO' := hide hown'; have HGR := hide hg; have BGn := (BG.out.alloc (.cells #[.int .i64 dk, .int .i64 df, .int .i64 dt] 41)).grown hg (fun g hgg => by have := own_lt HO.out hgg; omega); have n2 := BGn.cell 2 (.int .i64 dt) rfl; clear hown' hg hat BGn)
                have HB' := hide (show Le w w' from Below.trans HBi.out (Below.trans ((Below.refl _ _).alloc hzX _) (below_own HGR.out (Nat.le_refl _) (by simp; omega) (fun g h => own_ge HO1.out h (Nat.le_refl _)))))
                exact ⟨⟨k + 1, c1, A1, dt, o1 ++ [⟨dk, df, dt⟩], rfl, rfl, by omega, hide (by simp [HK.out]), HCH2, hide (by rw [dcs_append]; exact HO'.out), HB'⟩, by simp [intOf]; exact hlt⟩
#print axioms refchosen_any
end Go.Proofs.Ytnihladjafnjpaa
