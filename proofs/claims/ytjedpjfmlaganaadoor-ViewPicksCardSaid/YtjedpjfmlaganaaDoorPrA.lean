/-
  What a node that names none comes to, walked.
-/
import Derived.Test.YtjedpjfmlaganaaDoorPrMath
import Derived.Test.YtjedpjfmlaganaaDoorSchB
import Derived.Deep.DeepCutAuto
namespace Go.Proofs.YtjedpjfmlaganaaDoor
set_option maxRecDepth 100000
open Go.RowKit
set_option linter.unusedVariables false

theorem yes_any (w : World) (b : Bool) : Calls Tryd.prog 46 #[.bool b] w fun e w' => e = .returned (.int .i64 (pr.yesI b)) ∧ w = w' := by
  cases b
  all_goals
    go_enter Tryd.func46, Tryd.ntmps46
    go_wp2_with fail
    go_ret
    exact ⟨rfl, rfl⟩
theorem refyes_any (w : World) (b : Bool) : Calls Tryd.prog 49 #[.bool b] w fun e w' => e = .returned (.int .i64 (pr.yesI b)) ∧ w = w' := by
  cases b
  all_goals
    go_enter Tryd.func49, Tryd.ntmps49
    go_wp2_with fail
    go_ret
    exact ⟨rfl, rfl⟩
theorem names_any (w : World) (op : Int) : Calls Tryd.prog 26 #[.int .i64 op] w fun e w' => e = .returned (.bool (pr.isN op)) ∧ w = w' := by
  obtain ⟨d1, h1⟩ : ∃ d, decide (op = 1) = d := ⟨_, rfl⟩
  obtain ⟨d2, h2⟩ : ∃ d, decide (op = 2) = d := ⟨_, rfl⟩
  obtain ⟨d3, h3⟩ : ∃ d, decide (op = 3) = d := ⟨_, rfl⟩
  have e1 : (op == 1) = d1 := by rw [← h1]; rfl
  have e2 : (op == 2) = d2 := by rw [← h2]; rfl
  have e3 : (op == 3) = d3 := by rw [← h3]; rfl
  have HR := hide (show pr.isN op = (d1 || (d2 || d3)) by unfold pr.isN; rw [h1, h2, h3])
  clear h1 h2 h3
  go_enter Tryd.func26, Tryd.ntmps26
  cases d1 <;> cases d2
  all_goals
    go_wp2_with fail
    go_ret
    exact ⟨by rw [HR.out]; rfl, rfl⟩
theorem not_any (w : World) (x : Int) (hx : 0 ≤ x ∧ x ≤ 2) : Calls Tryd.prog 31 #[.int .i64 x] w fun e w' => e = .returned (.int .i64 (2 - x)) ∧ w = w' := by
  have hw : IntKind.i64.wrap (2 - x) = 2 - x := by rw [IntKind.wrap_i64]; omega
  go_enter Tryd.func31, Tryd.ntmps31
  go_wp2_with fail
  go_ret
  exact ⟨rfl, rfl⟩
theorem both_any (w : World) (op a b : Int) : Calls Tryd.prog 32 #[.int .i64 op, .int .i64 a, .int .i64 b] w fun e w' => e = .returned (.int .i64 (if op = 1 then min a b else max a b)) ∧ w = w' := by
  by_cases h : op = 1
  · subst h
    go_enter Tryd.func32, Tryd.ntmps32
    go_wp2_with fail
    go_ret
    exact ⟨rfl, rfl⟩
  · have h1 : (op == 1) = false := by simpa using h
    rw [if_neg h]
    go_enter Tryd.func32, Tryd.ntmps32
    go_wp2_with fail
    go_ret
    exact ⟨rfl, rfl⟩
#print axioms both_any

theorem any_step {v : va.Val} {l : List va.Val} {k : Nat} {u : va.Val} (h : l[k]? = some u) : ((l.drop k).any fun u => pr.sameV v u) = (pr.sameV v u || (l.drop (k + 1)).any fun u => pr.sameV v u) := by
  rw [va.drop_step h]; rfl
/-- Where the value asked for stands, or -1. -/
def Idx (l : List va.Val) (v : va.Val) (x : Int) : Prop := (decide (0 ≤ x)) = l.any fun u => pr.sameV v u
set_option maxRecDepth 100000 in
set_option maxHeartbeats 1000000 in
theorem index_any (w : World) (A : Option Addr) (n c : Nat) (l : List va.Val) (hl : l.length = n) (hn : n ≤ 9223372036854775807) (hr : Row w w.heap.size A (vcs l)) (v : va.Val) :
    Calls Tryd.prog 58 #[.slice A n c, .agg #[.bool v.nul, .int .i64 v.n, .string v.s]] w fun e w' => ∃ x : Int, e = .returned (.int .i64 x) ∧ Idx l v x ∧ Below w.heap.size w w' := by
  have HL := hide hl
  have HR := hide hr
  obtain ⟨ans, hans⟩ : ∃ a, (l.any fun u => pr.sameV v u) = a := ⟨_, rfl⟩
  have HA0 := hide (show ((l.drop 0).any fun u => pr.sameV v u) = ans by rw [List.drop_zero]; exact hans)
  have HI := hide (show ∀ x : Int, decide (0 ≤ x) = ans → Idx l v x from fun x h => by unfold Idx; rw [hans]; exact h)
  have HSM := hide (show ∀ u, pr.sameV v u = decide (v.nul = u.nul ∧ v.n = u.n ∧ v.s.toList = u.s.toList) from fun u => rfl)
  have HST0 := hide (show ∀ (k : Nat) u, l[k]? = some u → ((l.drop k).any fun u => pr.sameV v u) = (pr.sameV v u || (l.drop (k + 1)).any fun u => pr.sameV v u) from fun k u h => any_step h)
  obtain ⟨F, hF⟩ : ∃ F : List va.Val → Bool, F = fun l => l.any fun u => pr.sameV v u := ⟨_, rfl⟩
  have HA := hide (show F (l.drop 0) = ans by rw [hF]; exact HA0.out)
  have HST := hide (show ∀ (k : Nat) u, l[k]? = some u → F (l.drop k) = (pr.sameV v u || F (l.drop (k + 1))) from fun k u h => by rw [hF]; exact HST0.out k u h)
  have HN := hide (show F [] = false by rw [hF]; rfl)
  obtain ⟨W, hW, bx, hb⟩ := valbox w v 43
  have HB0 := hide hb
  have HW := hide hW
  have HX := hide bx
  obtain ⟨vn, vi, vs⟩ := v
  simp only at HX HW HSM HST ⊢
  clear hl hr hans hF hW bx hb HST0 HA0
  go_enter Tryd.func58, Tryd.ntmps58
  go_upto_region 1 with fail
  rw [HW.out]
  go_wp2_with fail
  go_loopw [8] (fun i wr => ∃ j : Nat, i = .int .i64 j ∧ j ≤ n ∧ Hid (F (l.drop j) = ans) ∧ Hid (Box wr w.heap.size #[.bool vn, .int .i64 vi, .string vs] 43) ∧ Hid (Le w wr)) (fun i _ => n - (intOf i).toNat)
  case atStart => exact ⟨0, rfl, Nat.zero_le _, HA, HX, HB0⟩
  case round =>
    obtain ⟨j, rfl, hj, HG, BX, HB⟩ := hrel
    by_cases hp : j < n
    · obtain ⟨u, hu⟩ : ∃ u, l[j]? = some u := ⟨_, List.getElem?_eq_getElem (by rw [HL.out]; exact hp)⟩
      obtain ⟨bA, oA, rfl, hbA, r0, r1, r2⟩ := row_at3 HR.out hu
      have hnj : (j : Int) < n := by omega
      have HSJ := hide (show (pr.sameV ⟨vn, vi, vs⟩ u || F (l.drop (j + 1))) = ans by rw [← HST.out j u hu]; exact HG.out)
      have HSU := hide (HSM.out u)
      obtain ⟨V, hV⟩ : ∃ V, wr.drew = V := ⟨_, rfl⟩
      have HLV := hide (show Le w V by rw [← hV]; exact HB.out.drew)
      have BV := hide (show Box V w.heap.size #[.bool vn, .int .i64 vi, .string vs] 43 by rw [← hV]; exact BX.out.drew)
      have e0 : ∀ W, Le V W → W.cell? ⟨bA, oA + j * 3, none⟩ = some (.bool u.nul) := fun W h => ((HLV.out.trans h).cell (p := ⟨bA, oA + j * 3, none⟩) hbA).trans r0
      have e1 : ∀ W, Le V W → W.cell? ⟨bA, oA + j * 3 + 1, none⟩ = some (.int .i64 u.n) := fun W h => ((HLV.out.trans h).cell (p := ⟨bA, oA + j * 3 + 1, none⟩) hbA).trans r1
      have e2 : ∀ W, Le V W → W.cell? ⟨bA, oA + j * 3 + 2, none⟩ = some (.string u.s) := fun W h => ((HLV.out.trans h).cell (p := ⟨bA, oA + j * 3 + 2, none⟩) hbA).trans r2
      have g0 := BV.out.later 0 (.bool vn) rfl
      have g1 := BV.out.later 1 (.int .i64 vi) rfl
      have g2 := BV.out.later 2 (.string vs) rfl
      have HV := hide hV
      clear r0 r1 r2 hu HG hV
      obtain ⟨un, ui, us⟩ := u
      simp only at e0 e1 e2 HSU
      go_wp2_with fail
      refine region_pi [(0, true), (1, true), (2, true), (3, true), (4, true), (5, true)] (by kernel_rfl) (by kernel_rfl) ?_
      simp only [opsPi, List.filterMap_cons, List.filterMap_nil, List.getElem?_toArray, List.getElem?_cons_zero, List.getElem?_cons_succ, Option.map_some]
      rw [HV.out]
      repeat (first | (refine pi_take (v := _) rfl (fun W hW => by go_simp <;> exact rfl) ?_; simp only [Act.put, List.setIfInBounds_toArray, List.set_cons_zero, List.set_cons_succ]) | (refine pi_skip rfl ?_; simp only [Act.put, List.setIfInBounds_toArray, List.set_cons_zero, List.set_cons_succ]))
      refine pi_take (v := .bool (pr.sameV ⟨vn, vi, vs⟩ ⟨un, ui, us⟩)) rfl (fun W' hW' => ?_) ?_
      · clear e0 e1 e2 g0 g1 g2
        go_simp
        unfold pr.sameV
        repeat' split
        all_goals simp_all
      simp only [Act.put, List.setIfInBounds_toArray, List.set_cons_zero, List.set_cons_succ]
      refine pi_done ?_
      clear e0 e1 e2 g0 g1 g2
      obtain ⟨q, hq⟩ : ∃ q, pr.sameV ⟨vn, vi, vs⟩ ⟨un, ui, us⟩ = q := ⟨_, rfl⟩
      rw [hq] at HSJ ⊢
      clear hq HSU
      cases q
      · go_wp2_with fail
        exact ⟨⟨j + 1, by go_num, by omega, hide (by have h := HSJ.out; rw [Bool.false_or] at h; exact h), BV, HLV⟩, by simp [intOf]; omega⟩
      · have HF := hide (show ans = true by rw [← HSJ.out]; rfl)
        go_wp2_with fail
        go_ret
        exact ⟨_, rfl, HI.out _ (by rw [HF.out]; simp), HLV.out⟩
    · obtain rfl : j = n := by omega
      have HF := hide (show ans = false by rw [← HG.out, List.drop_eq_nil_of_le (by rw [HL.out]; exact Nat.le_refl _)]; exact HN.out)
      go_wp2_with fail
      go_ret
      exact ⟨_, rfl, HI.out _ (by rw [HF.out]; simp), HB.out⟩
#print axioms index_any

set_option maxRecDepth 100000 in
theorem contains_any (w : World) (A : Option Addr) (n c : Nat) (l : List va.Val) (hl : l.length = n) (hn : n ≤ 9223372036854775807) (hr : Row w w.heap.size A (vcs l)) (v : va.Val) :
    Calls Tryd.prog 47 #[.slice A n c, .agg #[.bool v.nul, .int .i64 v.n, .string v.s]] w fun e w' => e = .returned (.bool (l.any fun u => pr.sameV v u)) ∧ Below w.heap.size w w' := by
  have hix := hide (fun (w : World) (hr : Row w w.heap.size A (vcs l)) => index_any w A n c l hl hn hr v)
  have HR := hide hr
  obtain ⟨W, hW, bx, hb⟩ := valbox w v 43
  have HB0 := hide hb
  have HW := hide hW
  have HX := hide bx
  obtain ⟨ans, hans⟩ : ∃ a, (l.any fun u => pr.sameV v u) = a := ⟨_, rfl⟩
  have HI := hide (show ∀ x, Idx l v x → decide (0 ≤ x) = ans from fun x h => by rw [← hans]; exact h)
  rw [hans]
  obtain ⟨vn, vi, vs⟩ := v
  simp only at HX HW hix ⊢
  clear hl hr hW bx hb hans
  go_enter Tryd.func47, Tryd.ntmps47
  go_upto_region 1 with fail
  rw [HW.out]
  have g0 := HX.out.cell 0 (.bool vn) rfl
  have g1 := HX.out.cell 1 (.int .i64 vi) rfl
  have g2 := HX.out.cell 2 (.string vs) rfl
  go_wp2_with fail
  refine (hix.out W ((HB0.out.row HR.out (Nat.le_refl _)).more HB0.out.size)).mono ?_
  rintro e w1 ⟨x, rfl, hx, hb⟩
  have HL := hide (HB0.out.trans hb)
  have hx2 := HI.out x hx
  clear hx hb g0 g1 g2
  have HX2 := hide hx2
  clear hx2
  go_wp2_with fail
  go_ret
  exact ⟨by rw [← HX2.out]; simp, HL.out⟩
#print axioms contains_any

def _root_.Go.Proofs.YtjedpjfmlaganaaDoor.pr.Nd.cells (n : pr.Nd) : Array Value := #[.int .i64 n.op, .int .i64 n.col, .bool n.v.nul, .int .i64 n.v.n, .string n.v.s, .slice n.vA n.vn n.vc, .slice n.lA n.ln n.lc]
theorem nd_box (w : World) (n : pr.Nd) (t : TypeId) : ∃ W, w.alloc (.cells n.cells t) = W ∧ Box W w.heap.size n.cells t ∧ Le w W :=
  ⟨_, rfl, box_new _ _ _, (Below.refl _ _).alloc (Nat.le_refl _) _⟩
theorem val_one (v : va.Val) : (#[.bool v.nul, .int .i64 v.n, .string v.s] : Array Value).all (·.oneCell') = true := by simp [Value.oneCell']
theorem val_box (w : World) (z : Array Value) (t : TypeId) (v : va.Val) : ∃ X, (w.alloc (.cells z t)).setRow w.heap.size #[.bool v.nul, .int .i64 v.n, .string v.s] = X ∧ Box X w.heap.size #[.bool v.nul, .int .i64 v.n, .string v.s] t ∧ Below w.heap.size w X :=
  ⟨_, rfl, setRow_heap _ _ _ _ _ _ (box_new _ _ _), below_setRow ((Below.refl _ _).alloc (Nat.le_refl _) _) (Nat.le_refl _) _⟩

set_option maxRecDepth 100000 in
set_option maxHeartbeats 2000000 in
theorem asked_any (w : World) (n : pr.Nd) (A : Option Addr) (m c : Nat) (r : List va.Val) (hop : 4 ≤ n.op ∧ n.op ≤ 9) (hcol : n.op ≠ 9 → 0 ≤ n.col ∧ n.col < m) (hl : r.length = m) (hm : m ≤ 9223372036854775807)
    (hvl : n.vals.length = n.vn) (hvn : n.vn ≤ 9223372036854775807) (hr : Row w w.heap.size A (vcs r)) (hrv : Row w w.heap.size n.vA (vcs n.vals)) :
    Calls Tryd.prog 30 #[.agg n.cells, .slice A m c] w fun e w' => e = .returned (.int .i64 (pr.askedV n (r.getD n.col.toNat pr.none))) ∧ Below w.heap.size w w' := by
  obtain ⟨W, hW, bx, hb⟩ := nd_box w n 45
  have HB0 := hide hb
  have HW := hide hW
  have HX := hide bx
  have HR := hide hr
  have HRV := hide hrv
  have HVL := hide hvl
  obtain ⟨ans, hans⟩ : ∃ a, pr.askedV n (r.getD n.col.toNat pr.none) = a := ⟨_, rfl⟩
  rw [hans]
  have HANS := hide hans
  obtain ⟨op, col, ⟨un, ui, us⟩, vA, vn, vc, vals, lA, ln, lc, L⟩ := n
  simp only [pr.Nd.cells] at HX HW HRV HVL hop hcol hvn ⊢
  clear hW bx hb hr hrv hvl hans
  go_enter Tryd.func30, Tryd.ntmps30
  go_upto_region 1 with fail
  rw [HW.out]
  have g0 := HX.out.cell 0 (.int .i64 op) rfl
  have g1 := HX.out.cell 1 (.int .i64 col) rfl
  by_cases h9 : op = 9
  · subst h9
    have ha : ans = 2 := by rw [← HANS.out]; rfl
    go_wp2_with fail
    go_ret
    exact ⟨by first | rfl | (rw [ha]; rfl), HB0.out⟩
  · have h9' : (op == 9) = false := by simpa using h9
    obtain ⟨j, rfl⟩ : ∃ j : Nat, col = j := ⟨col.toNat, by have := hcol h9; omega⟩
    have hj : (j : Int) < m := (hcol h9).2
    have hj0 : (0 : Int) ≤ (j : Int) := (hcol h9).1
    obtain ⟨v, hv⟩ : ∃ v, r[j]? = some v := ⟨_, List.getElem?_eq_getElem (by omega)⟩
    obtain ⟨bA, oA, rfl, hbA, r0, r1, r2⟩ := row_at3 HR.out hv
    have hav : pr.askedV ⟨op, j, ⟨un, ui, us⟩, vA, vn, vc, vals, lA, ln, lc, L⟩ v = ans := by
      have h := HANS.out
      simp only at h
      rw [show ((j : Int)).toNat = j by omega, List.getD_eq_getElem?_getD, hv] at h
      exact h
    have HAV := hide hav
    have e0 : W.cell? ⟨bA, oA + j * 3, none⟩ = some (.bool v.nul) := (HB0.out.cell (p := ⟨bA, oA + j * 3, none⟩) hbA).trans r0
    have e1 : W.cell? ⟨bA, oA + j * 3 + 1, none⟩ = some (.int .i64 v.n) := (HB0.out.cell (p := ⟨bA, oA + j * 3 + 1, none⟩) hbA).trans r1
    have e2 : W.cell? ⟨bA, oA + j * 3 + 2, none⟩ = some (.string v.s) := (HB0.out.cell (p := ⟨bA, oA + j * 3 + 2, none⟩) hbA).trans r2
    obtain ⟨X, hX, bX, hbX⟩ := val_box W #[.bool false, .int .i64 0, .string ⟨#[]⟩] 43 v
    have HXX := hide hX
    have HLX := hide (show Le w X from HB0.out.trans hbX)
    have BN := hide (HX.out.below hbX HX.out.lt)
    have BV := hide bX
    clear r0 r1 r2 hv hav hX bX hbX HANS
    obtain ⟨vn', vi', vs'⟩ := v
    simp only at e0 e1 e2 HXX BV
    go_upto_region 4 with (refine wpList_store_row rfl 43 _ _ rfl W.heap.size _ rfl rfl 43 _ (box_new _ _ _) (by kernel_rfl) rfl (val_one ⟨vn', vi', vs'⟩) ?_)
    rw [HXX.out]
    clear e0 e1 e2 g0 g1
    have g0 := BN.out.cell 0 (.int .i64 op) rfl
    have g2 := BN.out.cell 2 (.bool un) rfl
    have g3 := BN.out.cell 3 (.int .i64 ui) rfl
    have g4 := BN.out.cell 4 (.string us) rfl
    have g5 := BN.out.cell 5 (.slice vA vn vc) rfl
    have k0 := BV.out.cell 0 (.bool vn') rfl
    have k1 := BV.out.cell 1 (.int .i64 vi') rfl
    have k2 := BV.out.cell 2 (.string vs') rfl
    by_cases h8 : op = 8
    · subst h8
      have ha : pr.yesI vn' = ans := by rw [← HAV.out]; rfl
      go_wp2_with fail
      refine (yes_any X vn').mono ?_
      rintro e w1 ⟨rfl, rfl⟩
      rw [ha]
      go_wp2_with fail
      go_ret
      exact ⟨rfl, HLX.out⟩
    · have h8' : (op == 8) = false := by simpa using h8
      cases vn'
      · by_cases h7 : op = 7
        · subst h7
          have ha : pr.yesI (vals.any fun u => pr.sameV ⟨false, vi', vs'⟩ u) = ans := by rw [← HAV.out]; rfl
          go_wp2_with fail
          refine (contains_any X vA vn vc vals HVL.out hvn ((HLX.out.row HRV.out (Nat.le_refl _)).more HLX.out.size) ⟨false, vi', vs'⟩).mono ?_
          rintro e w1 ⟨rfl, hb1⟩
          have HL1 := hide (HLX.out.trans hb1)
          clear hb1
          clear g0 g2 g3 g4 g5 k0 k1 k2
          obtain ⟨q, hq⟩ : ∃ q, (vals.any fun u => pr.sameV ⟨false, vi', vs'⟩ u) = q := ⟨_, rfl⟩
          rw [hq] at ha ⊢
          clear hq
          go_wp2_with fail
          refine (yes_any w1 q).mono ?_
          rintro e w2 ⟨rfl, rfl⟩
          rw [ha]
          go_wp2_with fail
          go_ret
          exact ⟨rfl, HL1.out⟩
        · have h7' : (op == 7) = false := by simpa using h7
          obtain ⟨x, hx⟩ : ∃ x, va.cmpV ⟨false, vi', vs'⟩ ⟨un, ui, us⟩ = x := ⟨_, rfl⟩
          have hcmp := hide (fun (w : World) => hx ▸ compare_any w ⟨false, vi', vs'⟩ ⟨un, ui, us⟩)
          have hav := HAV.out
          unfold pr.askedV at hav
          simp only [h7, h8, h9, if_false, Bool.false_eq_true] at hav
          rw [hx] at hav
          have HA2 := hide hav
          clear hav hx HAV
          go_wp2_with fail
          refine (hcmp.out X).mono ?_
          rintro e w1 ⟨rfl, hb1⟩
          have HL1 := hide (HLX.out.trans hb1)
          have BN1 := hide (BN.out.below hb1 BN.out.lt)
          clear hb1 g0 g2 g3 g4 g5 k0 k1 k2
          have g0 := BN1.out.cell 0 (.int .i64 op) rfl
          obtain ⟨b, hb⟩ : ∃ b : Bool, (if op = 4 then decide (x = 0) else if op = 5 then decide (x < 0) else decide (x ≤ 0)) = b := ⟨_, rfl⟩
          have ha : pr.yesI b = ans := by
            rw [← HA2.out, ← hb]
            split
            · rfl
            · split <;> rfl
          have HB := hide hb
          clear hb HA2
          have h456 : op = 4 ∨ op = 5 ∨ op = 6 := by omega
          rcases h456 with rfl | rfl | rfl
          · obtain ⟨z, hz⟩ : ∃ z, decide (x = 0) = z := ⟨_, rfl⟩
            have hz2 : (x == 0) = z := by rw [← hz]; rfl
            have hbz : b = z := by rw [← HB.out, ← hz]; rfl
            have hy : z = true → decide (x < 0) = false := fun h => by rw [h] at hz; simp at hz; simp [hz]
            subst hbz
            clear hz HB
            cases b
            · obtain ⟨y, hy2⟩ : ∃ y, decide (x < 0) = y := ⟨_, rfl⟩
              cases y
              all_goals
                go_wp2_with fail
                refine (yes_any w1 false).mono ?_
                rintro e w2 ⟨rfl, rfl⟩
                rw [ha]
                go_wp2_with fail
                go_ret
                exact ⟨rfl, HL1.out⟩
            · have hy2 := hy rfl
              go_wp2_with fail
              refine (yes_any w1 true).mono ?_
              rintro e w2 ⟨rfl, rfl⟩
              rw [ha]
              go_wp2_with fail
              go_ret
              exact ⟨rfl, HL1.out⟩
          · obtain ⟨z, hz⟩ : ∃ z, (x == 0) = z := ⟨_, rfl⟩
            obtain ⟨y, hy⟩ : ∃ y, decide (x < 0) = y := ⟨_, rfl⟩
            have hby : b = y := by rw [← HB.out, ← hy]; rfl
            subst hby
            clear HB
            cases z <;> cases b
            all_goals
              go_wp2_with fail
              refine (yes_any w1 _).mono ?_
              rintro e w2 ⟨rfl, rfl⟩
              rw [ha]
              go_wp2_with fail
              go_ret
              exact ⟨rfl, HL1.out⟩
          · obtain ⟨z, hz⟩ : ∃ z, (x == 0) = z := ⟨_, rfl⟩
            obtain ⟨y, hy⟩ : ∃ y, decide (x < 0) = y := ⟨_, rfl⟩
            have hby : b = (z || y) := by
              rw [← HB.out, ← hy, ← hz]
              show decide (x ≤ 0) = _
              rw [Bool.eq_iff_iff]
              simp
              omega
            subst hby
            clear HB
            cases z <;> cases y
            all_goals
              go_wp2_with fail
              refine (yes_any w1 _).mono ?_
              rintro e w2 ⟨rfl, rfl⟩
              first | rw [show pr.yesI false = ans from ha] | rw [show pr.yesI true = ans from ha]
              go_wp2_with fail
              go_ret
              exact ⟨rfl, HL1.out⟩
      · have ha : ans = 1 := by
          rw [← HAV.out]
          unfold pr.askedV
          simp only [h8, h9, if_false, if_true]
        go_wp2_with fail
        go_ret
        exact ⟨by first | rfl | (rw [ha]; rfl), HLX.out⟩
#print axioms asked_any
end Go.Proofs.YtjedpjfmlaganaaDoor
