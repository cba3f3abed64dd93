/-
  Whether nodes may be a predicate, by the program: walked (written by genPrI.py).
-/
import Derived.Test.YtjedpjfmlaganaaDoorPrE
namespace Go.Proofs.YtjedpjfmlaganaaDoor
set_option maxRecDepth 100000
open Go.RowKit
set_option linter.unusedVariables false

set_option maxRecDepth 100000 in
theorem no_any (w : World) (p : Nat) (k : Int) (v : va.Val) (hp : w.cell? ⟨p, 0, none⟩ = some (.int .i64 k)) (hpl : p < w.heap.size) (wn : (Lit.int .i64 v.n).wf = true) (hs : v.s.size ≤ 9223372036854775807) (hT : Tabs8 w) :
    Calls Tryd.prog 43 #[.agg #[.bool v.nul, .int .i64 v.n, .string v.s], .pointer (some ⟨p, 0, none⟩)] w fun e w' => e = .returned (.bool (!pr.someV k v)) ∧ Below w.heap.size w w' := by
  obtain ⟨W, hW, bx, hb⟩ := valbox w v 43
  have HB0 := hide hb
  have HW := hide hW
  have HX := hide bx
  have e0 : W.cell? ⟨p, 0, none⟩ = some (.int .i64 k) := (hb.cell (p := ⟨p, 0, none⟩) hpl).trans hp
  obtain ⟨q, hq⟩ : ∃ q, va.mayV k v = q := ⟨_, rfl⟩
  have hm := hide (hq ▸ vmay_any W k v wn hs (hT.le hb))
  have HR := hide (show (!pr.someV k v) = (v.nul || !q) by unfold pr.someV; rw [hq]; cases q <;> cases v.nul <;> rfl)
  rw [HR.out]
  obtain ⟨vn, vi, vs⟩ := v
  simp only at HX HW hm ⊢
  clear hW bx hb hq HR hp wn
  go_enter Tryd.func43, Tryd.ntmps43
  go_upto_region 1 with fail
  rw [HW.out]
  have g0 := HX.out.cell 0 (.bool vn) rfl
  have g1 := HX.out.cell 1 (.int .i64 vi) rfl
  have g2 := HX.out.cell 2 (.string vs) rfl
  cases vn
  · go_wp2_with fail
    refine hm.out.mono ?_
    rintro e w1 ⟨rfl, hb⟩
    have HL := hide (HB0.out.trans hb)
    clear hb
    go_wp2_with fail
    go_ret
    exact ⟨rfl, HL.out⟩
  · go_wp2_with fail
    go_ret
    exact ⟨rfl, HB0.out⟩
#print axioms no_any

theorem none_step {kd : Int} {l : List va.Val} {k : Nat} {u : va.Val} (h : l[k]? = some u) : (l.drop k).all (pr.someV kd) = (pr.someV kd u && (l.drop (k + 1)).all (pr.someV kd)) := allS_step h
set_option maxRecDepth 100000 in
set_option maxHeartbeats 1000000 in
theorem indexf_any (w : World) (p : Nat) (kd : Int) (A : Option Addr) (n c : Nat) (l : List va.Val) (hp : w.cell? ⟨p, 0, none⟩ = some (.int .i64 kd)) (hpl : p < w.heap.size) (hl : l.length = n) (hn : n ≤ 9223372036854775807) (hr : Row w w.heap.size A (vcs l))
    (hw : ∀ v ∈ l, (Lit.int .i64 v.n).wf = true ∧ v.s.size ≤ 9223372036854775807) (hT : Tabs8 w) :
    Calls Tryd.prog 57 #[.slice A n c, .func (Fn.func 43) #[] #[.pointer (some ⟨p, 0, none⟩)]] w fun e w' => ∃ x : Int, e = .returned (.int .i64 x) ∧ decide (0 ≤ x) = (!l.all (pr.someV kd)) ∧ Below w.heap.size w w' := by
  have HL := hide hl
  have HR := hide hr
  have HW := hide hw
  have HT := hide hT
  have HP := hide hp
  obtain ⟨ans, hans⟩ : ∃ a, l.all (pr.someV kd) = a := ⟨_, rfl⟩
  have HA := hide (show (l.drop 0).all (pr.someV kd) = ans by rw [List.drop_zero]; exact hans)
  rw [hans]
  clear hl hr hw hT hp hans
  go_enter Tryd.func57, Tryd.ntmps57
  go_wp2_with fail
  go_loopw [8] (fun i wr => ∃ j : Nat, i = .int .i64 j ∧ j ≤ n ∧ Hid ((l.drop j).all (pr.someV kd) = ans) ∧ Hid (Le w wr)) (fun i _ => n - (intOf i).toNat)
  case atStart => exact ⟨0, rfl, Nat.zero_le _, HA, hide (Below.refl _ _)⟩
  case round =>
    obtain ⟨j, rfl, hj, HG, HB⟩ := hrel
    by_cases hjn : j < n
    · obtain ⟨u, hu⟩ : ∃ u, l[j]? = some u := ⟨_, List.getElem?_eq_getElem (by rw [HL.out]; exact hjn)⟩
      obtain ⟨bA, oA, rfl, hbA, r0, r1, r2⟩ := row_at3 HR.out hu
      have e0 : wr.cell? ⟨bA, oA + j * 3, none⟩ = some (.bool u.nul) := (HB.out.cell (p := ⟨bA, oA + j * 3, none⟩) hbA).trans r0
      have e1 : wr.cell? ⟨bA, oA + j * 3 + 1, none⟩ = some (.int .i64 u.n) := (HB.out.cell (p := ⟨bA, oA + j * 3 + 1, none⟩) hbA).trans r1
      have e2 : wr.cell? ⟨bA, oA + j * 3 + 2, none⟩ = some (.string u.s) := (HB.out.cell (p := ⟨bA, oA + j * 3 + 2, none⟩) hbA).trans r2
      have hnj : (j : Int) < n := by omega
      have HWU := hide (HW.out u (List.mem_of_getElem? hu))
      have HSJ := hide (show (pr.someV kd u && (l.drop (j + 1)).all (pr.someV kd)) = ans by rw [← allS_step hu]; exact HG.out)
      clear r0 r1 r2 hu HG
      go_wp2_with fail
      refine (no_any wr p kd u ((HB.out.cell (p := ⟨p, 0, none⟩) hpl).trans HP.out) (Nat.lt_of_lt_of_le hpl HB.out.size) HWU.out.1 HWU.out.2 (HT.out.le HB.out)).mono ?_
      rintro e w1 ⟨rfl, hb⟩
      have HL1 := hide (show Le w w1 from HB.out.trans hb)
      obtain ⟨q, hq⟩ : ∃ q, pr.someV kd u = q := ⟨_, rfl⟩
      rw [hq] at HSJ ⊢
      clear hb hq e0 e1 e2
      cases q
      · have HF := hide (show ans = false by rw [← HSJ.out]; rfl)
        go_wp2_with fail
        go_ret
        exact ⟨_, rfl, by rw [HF.out]; simp, HL1.out⟩
      · have HG2 := hide (show (l.drop (j + 1)).all (pr.someV kd) = ans by rw [← HSJ.out]; rfl)
        go_wp2_with fail
        exact ⟨⟨j + 1, by go_num, by omega, HG2, HL1⟩, by simp [intOf]; omega⟩
    · obtain rfl : j = n := by omega
      have HF := hide (show ans = true by rw [← HG.out, List.drop_eq_nil_of_le (by rw [HL.out]; exact Nat.le_refl _)]; rfl)
      go_wp2_with fail
      go_ret
      exact ⟨_, rfl, by rw [HF.out]; simp, HB.out⟩
#print axioms indexf_any
set_option maxRecDepth 100000 in
theorem containsf_any (w : World) (p : Nat) (kd : Int) (A : Option Addr) (n c : Nat) (l : List va.Val) (hp : w.cell? ⟨p, 0, none⟩ = some (.int .i64 kd)) (hpl : p < w.heap.size) (hl : l.length = n) (hn : n ≤ 9223372036854775807) (hr : Row w w.heap.size A (vcs l))
    (hw : ∀ v ∈ l, (Lit.int .i64 v.n).wf = true ∧ v.s.size ≤ 9223372036854775807) (hT : Tabs8 w) :
    Calls Tryd.prog 45 #[.slice A n c, .func (Fn.func 43) #[] #[.pointer (some ⟨p, 0, none⟩)]] w fun e w' => e = .returned (.bool (!l.all (pr.someV kd))) ∧ Below w.heap.size w w' := by
  have hix := hide (indexf_any w p kd A n c l hp hpl hl hn hr hw hT)
  obtain ⟨ans, hans⟩ : ∃ a, (!l.all (pr.someV kd)) = a := ⟨_, rfl⟩
  rw [hans] at hix ⊢
  clear hp hl hr hw hT hans
  go_enter Tryd.func45, Tryd.ntmps45
  go_wp2_with fail
  refine hix.out.mono ?_
  rintro e w1 ⟨x, rfl, hx, hb⟩
  have HX := hide hx
  have HB := hide hb
  clear hx hb
  go_wp2_with fail
  go_ret
  exact ⟨by rw [← HX.out]; simp, HB.out⟩
#print axioms containsf_any

/-- More of a node that came in: its numbers. -/
def WfN (n : pr.Nd) : Prop := (Lit.int .i64 n.v.n).wf = true ∧ ∀ v ∈ n.vals, (Lit.int .i64 v.n).wf = true
set_option maxRecDepth 100000 in
set_option maxHeartbeats 2000000 in
theorem leaf_any (w : World) (A' : Option Addr) (m c' : Nat) (cols : List va.Col) (hl' : cols.length = m) (hm : m ≤ 9223372036854775807) (hr' : Row w w.heap.size A' (ccs cols)) (n : pr.Nd) (hn : Has w w.heap.size n) (hw : WfN n) (hT : Tabs8 w) :
    Calls Tryd.prog 27 #[.slice A' m c', .agg n.cells] w fun e w' => e = .returned (.bool (pr.leafOk cols n)) ∧ Below w.heap.size w w' := by
  obtain ⟨W, hW, bx, hb⟩ := nd_box w n 45
  have HB0 := hide hb
  have HW := hide hW
  have HX := hide bx
  have HL' := hide hl'
  have HR' := hide hr'
  have HT := hide hT
  have HN := hide ((hn.on hb (Nat.le_refl _)).more hb.size)
  have HWF := hide hw
  obtain ⟨ans, hans⟩ : ∃ a, pr.leafOk cols n = a := ⟨_, rfl⟩
  rw [hans]
  have HANS := hide hans
  obtain ⟨op, col, ⟨un, ui, us⟩, vA, vn, vc, vals, lA, ln, lc, L⟩ := n
  simp only [pr.Nd.cells] at HX HW ⊢
  clear hW bx hb hn hl' hr' hT hw hans
  go_enter Tryd.func27, Tryd.ntmps27
  go_upto_region 1 with fail
  rw [HW.out]
  have c0 := HX.out.cell 0 (.int .i64 op) rfl
  have c1 := HX.out.cell 1 (.int .i64 col) rfl
  have c2 := HX.out.cell 2 (.bool un) rfl
  have c3 := HX.out.cell 3 (.int .i64 ui) rfl
  have c4 := HX.out.cell 4 (.string us) rfl
  have c5 := HX.out.cell 5 (.slice vA vn vc) rfl
  by_cases h9 : op = 9
  · subst h9
    have ha : ans = true := by rw [← HANS.out]; rfl
    go_wp2_with fail
    go_ret
    exact ⟨by first | rfl | (rw [ha]; rfl), HB0.out⟩
  · have h9' : (op == 9) = false := by simpa using h9
    obtain ⟨l4, hl4⟩ : ∃ d, decide (op < 4) = d := ⟨_, rfl⟩
    obtain ⟨g9, hg9⟩ : ∃ d, decide (9 < op) = d := ⟨_, rfl⟩
    obtain ⟨l0, hl0⟩ : ∃ d, decide (col < 0) = d := ⟨_, rfl⟩
    obtain ⟨gm, hgm⟩ : ∃ d, decide ((m : Int) ≤ col) = d := ⟨_, rfl⟩
    have HBX := hide (show (l4 || (g9 || (l0 || gm))) = true → ans = false from fun h => by
      rw [← HANS.out]
      subst hl4
      subst hg9
      subst hl0
      subst hgm
      unfold pr.leafOk
      simp only
      rw [HL'.out]
      simp only [Bool.or_eq_true, decide_eq_true_eq] at h
      by_cases hA : 4 ≤ op ∧ op ≤ 9
      · rw [decide_eq_true hA]
        have hc : ¬ (0 ≤ col ∧ col < (m : Int)) := by omega
        rw [decide_eq_false h9, decide_eq_false hc]
        rfl
      · rw [decide_eq_false hA]
        rfl)
    have HOK := hide (show (l4 || (g9 || (l0 || gm))) = false → (4 ≤ op ∧ op ≤ 9) ∧ (0 ≤ col ∧ col < (m : Int)) from fun h => by
      subst hl4
      subst hg9
      subst hl0
      subst hgm
      simp only [Bool.or_eq_false_iff, decide_eq_false_iff_not] at h
      omega)
    go_upto_region 3 with fail
    go_cut [29] (fun s29 wx => s29 = .bool (l4 || (g9 || (l0 || gm))) ∧ wx = W)
    case first =>
      cases l4
      · cases g9
        · cases l0
          · go_wp2_with fail
            go_meet
            exact ⟨rfl, rfl⟩
          · go_wp2_with fail
            go_meet
            exact ⟨rfl, rfl⟩
        · go_wp2_with fail
          go_meet
          exact ⟨rfl, rfl⟩
      · go_wp2_with fail
        go_meet
        exact ⟨rfl, rfl⟩
    case rest =>
      obtain ⟨rfl, rfl⟩ := hcut
      obtain ⟨bd, hbd⟩ : ∃ b, (l4 || (g9 || (l0 || gm))) = b := ⟨_, rfl⟩
      rw [hbd] at HBX HOK ⊢
      clear hbd hl4 hg9 hl0 hgm
      cases bd
      · have hok := HOK.out rfl
        clear HBX HOK
        obtain ⟨cc, rfl⟩ : ∃ cc : Nat, col = cc := ⟨col.toNat, by omega⟩
        have hcm : (cc : Int) < m := hok.2.2
        have hcm0 : (0 : Int) ≤ (cc : Int) := hok.2.1
        obtain ⟨cl, hcl⟩ : ∃ cl, cols[cc]? = some cl := ⟨_, List.getElem?_eq_getElem (by rw [HL'.out]; omega)⟩
        obtain ⟨bC, oC, rfl, hbC, -, rk⟩ := row_at2 HR'.out hcl
        have HKD := hide (kind_at hcl)
        have HA2 := hide (show ans = (decide (op = 8) || (if op = 7 then vals.all (pr.someV cl.kind) && decide (1 ≤ vn ∧ vn ≤ 10) else pr.someV cl.kind ⟨un, ui, us⟩)) by
          rw [← HANS.out]
          unfold pr.leafOk
          simp only
          have hvn : vals.length = vn := HN.out.1
          rw [HL'.out, HKD.out, hvn, decide_eq_true hok.1, decide_eq_false h9, decide_eq_true hok.2]
          rfl)
        have e1 : wc.cell? ⟨bC, oC + cc * 2 + 1, none⟩ = some (.int .i64 cl.kind) := (HB0.out.cell (p := ⟨bC, oC + cc * 2 + 1, none⟩) hbC).trans rk
        clear rk HANS HKD hcl
        go_upto_region 6 with fail
        obtain ⟨X, hX⟩ : ∃ X, wc.alloc (.cells #[.int .i64 cl.kind] 3) = X := ⟨_, rfl⟩
        have bK : Box X wc.heap.size #[.int .i64 cl.kind] 3 := by rw [← hX]; exact box_new _ _ _
        have hbX : Below wc.heap.size wc X := by rw [← hX]; exact (Below.refl _ _).alloc (Nat.le_refl _) _
        rw [hX]
        have HLX := hide (show Le w X from HB0.out.trans hbX)
        have BN := hide (HX.out.below hbX HX.out.lt)
        have HK := hide (bK.cell 0 _ rfl)
        have HKL := hide bK.lt
        have HNX := hide ((HN.out.on hbX (Nat.le_refl _)).more hbX.size)
        clear hX bK hbX c0 c1 c2 c3 c4 c5 e1
        have c0 := BN.out.cell 0 (.int .i64 op) rfl
        have c2 := BN.out.cell 2 (.bool un) rfl
        have c3 := BN.out.cell 3 (.int .i64 ui) rfl
        have c4 := BN.out.cell 4 (.string us) rfl
        have c5 := BN.out.cell 5 (.slice vA vn vc) rfl
        by_cases h8 : op = 8
        · subst h8
          have ha : ans = true := by rw [HA2.out]; rfl
          go_wp2_with fail
          go_ret
          exact ⟨by first | rfl | (rw [ha]; rfl), HLX.out⟩
        · have h8' : (op == 8) = false := by simpa using h8
          by_cases h7 : op = 7
          · subst h7
            obtain ⟨av, hav⟩ : ∃ b, vals.all (pr.someV cl.kind) = b := ⟨_, rfl⟩
            have HA3 := hide (show ans = (av && decide (1 ≤ vn ∧ vn ≤ 10)) by rw [HA2.out, hav]; rfl)
            have hcf := hide (containsf_any X wc.heap.size cl.kind vA vn vc vals HK.out HKL.out HNX.out.1 HNX.out.2.1 HNX.out.2.2.1 (fun v hv => ⟨HWF.out.2 v hv, HNX.out.2.2.2.2.2.2.2.1 v hv⟩) (HT.out.le HLX.out))
            rw [hav] at hcf
            clear hav HA2
            by_cases k1 : 1 ≤ vn
            · have s1 : decide ((1 : Int) ≤ (vn : Int)) = true := decide_eq_true (by omega)
              by_cases k2 : vn ≤ 10
              · have s2 : decide ((vn : Int) ≤ 10) = true := decide_eq_true (by omega)
                have HA4 := hide (show ans = av by rw [HA3.out, decide_eq_true ⟨k1, k2⟩, Bool.and_true])
                go_wp2_with fail
                refine hcf.out.mono ?_
                rintro e w1 ⟨rfl, hb⟩
                have HL1 := hide (show Le w w1 from HLX.out.trans hb)
                clear hb
                go_wp2_with fail
                go_ret
                exact ⟨by rw [HA4.out]; cases av <;> rfl, HL1.out⟩
              · have s2 : decide ((vn : Int) ≤ 10) = false := decide_eq_false (by omega)
                have ha : ans = false := by rw [HA3.out, decide_eq_false (by omega), Bool.and_false]
                go_wp2_with fail
                go_ret
                exact ⟨by first | rfl | (rw [ha]; rfl), HLX.out⟩
            · have s1 : decide ((1 : Int) ≤ (vn : Int)) = false := decide_eq_false (by omega)
              have ha : ans = false := by rw [HA3.out, decide_eq_false (by omega), Bool.and_false]
              go_wp2_with fail
              go_ret
              exact ⟨by first | rfl | (rw [ha]; rfl), HLX.out⟩
          · have h7' : (op == 7) = false := by simpa using h7
            have HA3 := hide (show ans = pr.someV cl.kind ⟨un, ui, us⟩ by
              rw [HA2.out, decide_eq_false h8, if_neg h7, Bool.false_or])
            have hno := hide (no_any X wc.heap.size cl.kind ⟨un, ui, us⟩ HK.out HKL.out HWF.out.1 HNX.out.2.2.2.2.2.2.1 (HT.out.le HLX.out))
            obtain ⟨sv, hsv⟩ : ∃ b, pr.someV cl.kind ⟨un, ui, us⟩ = b := ⟨_, rfl⟩
            rw [hsv] at HA3 hno
            clear hsv HA2
            go_wp2_with fail
            refine hno.out.mono ?_
            rintro e w1 ⟨rfl, hb⟩
            have HL1 := hide (show Le w w1 from HLX.out.trans hb)
            clear hb
            go_wp2_with fail
            go_ret
            exact ⟨by rw [HA3.out]; cases sv <;> rfl, HL1.out⟩
      · have HF := hide (HBX.out rfl)
        go_wp2_with fail
        go_ret
        rw [HF.out]
        exact ⟨rfl, HB0.out⟩
#print axioms leaf_any
end Go.Proofs.YtjedpjfmlaganaaDoor
