/-
  What may come out of a node that names none: by the program, walked.
-/
import Derived.Test.YtklgmojojgoaeaaDoorOuB
import Derived.Test.YtklgmojojgoaeaaDoorOuC
import Derived.Test.YtklgmojojgoaeaaDoorRegionB
import Derived.Deep.DeepCutAuto
namespace Go.Proofs.YtklgmojojgoaeaaDoor
open Go.RowKit
set_option linter.unusedVariables false

/-- What is known of columns, as cells. -/
def scs (l : List st.St) : List Value := l.flatMap fun s => (st.cells s).toList
theorem scs_cons (s : st.St) (l : List st.St) : scs (s :: l) = .int .i64 s.c :: .bool s.hn :: .bool s.mn.nul :: .int .i64 s.mn.n :: .string s.mn.s :: .bool s.mx.nul :: .int .i64 s.mx.n :: .string s.mx.s :: .int .i64 s.sum :: .bool s.ov :: scs l := rfl
theorem scs_append (l m : List st.St) : scs (l ++ m) = scs l ++ scs m := by simp [scs]
theorem scs_at : ∀ {l : List st.St} {k : Nat} {s : st.St}, l[k]? = some s → ∀ (j : Nat) u, (st.cells s)[j]? = some u → (scs l)[k * 10 + j]? = some u
  | [], k, n, h, _, _, _ => by simp at h
  | m :: l, 0, n, h, j, u, hu => by
    simp at h
    subst h
    have hj : j < 10 := (Array.getElem?_eq_some_iff.1 hu).1
    have e : scs (m :: l) = (st.cells m).toList ++ scs l := rfl
    rw [e, Nat.zero_mul, Nat.zero_add, List.getElem?_append_left (by simpa [st.cells] using hj)]
    simpa using hu
  | m :: l, k + 1, n, h, j, u, hu => by
    have h' : l[k]? = some n := by simpa using h
    have := scs_at h' j u hu
    rw [scs_cons, show (k + 1) * 10 + j = k * 10 + j + 1 + 1 + 1 + 1 + 1 + 1 + 1 + 1 + 1 + 1 by omega]
    simpa using this
theorem row_st {w : World} {B : Nat} {A : Option Addr} {l : List st.St} {k : Nat} {n : st.St} (hr : Row w B A (scs l)) (hk : l[k]? = some n) : ∃ b o, A = some ⟨b, o, none⟩ ∧ b < B ∧ w.cell? ⟨b, o + k * 10, none⟩ = some (.int .i64 n.c) ∧
    ∀ (j : Nat) u, (st.cells n)[j]? = some u → w.cell? ⟨b, o + k * 10 + j, none⟩ = some u := by
  obtain ⟨b, o, rfl, hb, c0⟩ := hr.at_ (scs_at hk 0 _ rfl)
  refine ⟨b, o, rfl, hb, c0, fun j u hu => ?_⟩
  obtain ⟨b', o', e, -, c1⟩ := hr.at_ (scs_at hk j u hu)
  injection e with e
  injection e with e1 e2 e3
  subst e1
  subst e2
  rw [Nat.add_assoc]
  exact c1
theorem st_one (s : st.St) : (st.cells s).all (·.oneCell') = true := by simp [st.cells, Value.oneCell']
def nst : st.St := ⟨0, false, zv, zv, 0, false⟩
theorem st_box2 (w : World) (s : st.St) (t : TypeId) : ∃ X, (w.alloc (.cells (st.cells nst) t)).setRow w.heap.size (st.cells s) = X ∧ Box X w.heap.size (st.cells s) t ∧ Below w.heap.size w X :=
  ⟨_, rfl, setRow_heap _ _ _ _ _ _ (box_new _ _ _), below_setRow ((Below.refl _ _).alloc (Nat.le_refl _) _) (Nat.le_refl _) _⟩
theorem t3_box2 (w : World) (x : ou.T3) (t : TypeId) : ∃ X, (w.alloc (.cells ou.zero.cells t)).setRow w.heap.size x.cells = X ∧ Box X w.heap.size x.cells t ∧ Below w.heap.size w X :=
  ⟨_, rfl, setRow_heap _ _ _ _ _ _ (box_new _ _ _), below_setRow ((Below.refl _ _).alloc (Nat.le_refl _) _) (Nat.le_refl _) _⟩
theorem nd_t3_box (w : World) (n : pr.Nd) (t u : TypeId) : ∃ W, (w.alloc (.cells n.cells t)).alloc (.cells ou.zero.cells u) = W ∧ Box W w.heap.size n.cells t ∧ Box W (w.heap.size + 1) ou.zero.cells u ∧ Le w W := by
  refine ⟨_, rfl, (box_new _ _ _).alloc _, ?_, ((Below.refl _ _).alloc (Nat.le_refl _) _).alloc (by simp) _⟩
  have h := box_new (w.alloc (.cells n.cells t)) ou.zero.cells u
  have e : (w.alloc (.cells n.cells t)).heap.size = w.heap.size + 1 := by simp
  rw [e] at h
  exact h
theorem wpList_val {P : Program} {ops : Array Oper} {rest : List Oper} {o : Oper} {a : Act} {w : World} {Q : Exit → Act → World → Prop} (hg : o.guard = none) (v : Value) (h : (execOp a.eval o).run P w = .ok (.value v) w) (k : wpList P ops Q rest (a.put o.dst v) w) : wpList P ops Q (o :: rest) a w :=
  wpList_plain hg fun _ hK => by
    unfold Oper.wp
    rw [h]
    exact hK _ _ k
theorem below_self (B i : Nat) (W : World) (a : Value) : Below B W (W.setCell ⟨B, i, none⟩ a) := (Below.refl B W).setCell (p := ⟨B, i, none⟩) (Nat.le_refl _) a
/-- What is asked of what is known: that it may be. -/
def SOk (s : st.St) : Prop := 0 ≤ s.c ∧ (0 < s.c → s.mn.nul = false ∧ s.mx.nul = false)
theorem asked_row (n : pr.Nd) (j : Nat) (hj : n.col = j) (v : va.Val) : pr.askedV n ((List.replicate j zv ++ [v]).getD n.col.toNat pr.none) = pr.askedV n v := by
  rw [hj, show ((j : Int)).toNat = j by omega, List.getD_eq_getElem?_getD, List.getElem?_append_right (by simp)]
  simp


theorem same_symm (a b : va.Val) : pr.sameV a b = pr.sameV b a := by
  rw [same_cmp, same_cmp, decide_eq_decide, va.cmpV_anti a b]
  omega
theorem known_eq {n : pr.Nd} {s : st.St} (h : n.op = 4) (hc : ¬ s.c = 0) : ou.knownV n s = ⟨!pr.sameV s.mn s.mx || !pr.sameV s.mn n.v, s.hn, ou.withinV s n.v⟩ := by
  unfold ou.knownV
  rw [h, if_neg (by decide), if_neg (by decide), if_neg hc, if_pos rfl]
  congr 1
  rw [same_cmp, same_cmp, Bool.eq_iff_iff]
  have h0 : va.cmpV s.mn s.mx = 0 → (va.cmpV s.mn n.v = 0 ↔ va.cmpV s.mx n.v = 0) := fun h => by
    rw [va.cmpV_zero] at h
    rw [va.cmpV_zero, va.cmpV_zero, h.1, h.2.1]
    have h3 : s.mn.s.toList = s.mx.s.toList := by simpa [va.eqS] using h.2.2
    simp [va.eqS, h3]
  have h1 : va.cmpV s.mn n.v = 0 → va.cmpV s.mx n.v = 0 → va.cmpV s.mn s.mx = 0 := fun h k => by
    rw [va.cmpV_zero] at h k
    rw [va.cmpV_zero, h.1, h.2.1, k.1, k.2.1]
    have h3 : s.mn.s.toList = n.v.s.toList := by simpa [va.eqS] using h.2.2
    have k3 : s.mx.s.toList = n.v.s.toList := by simpa [va.eqS] using k.2.2
    simp [va.eqS, h3, k3]
  by_cases a : va.cmpV s.mn n.v = 0
  · by_cases b : va.cmpV s.mx n.v = 0
    · simp [a, b, h1 a b]
    · have : ¬ va.cmpV s.mn s.mx = 0 := fun h => b ((h0 h).1 a)
      simp [b, this]
  · simp [a]
theorem known_in {n : pr.Nd} {s : st.St} (h : n.op = 7) (hc : ¬ s.c = 0) : ou.knownV n s = ⟨!pr.sameV s.mn s.mx || !(n.vals.any fun u => pr.sameV s.mn u), s.hn, n.vals.any (ou.withinV s)⟩ := by
  unfold ou.knownV
  rw [h, if_neg (by decide), if_neg (by decide), if_neg hc, if_neg (by decide), if_neg (by decide), if_neg (by decide)]
  congr 1
  rw [show (fun u => pr.sameV s.mn u) = (fun u => pr.sameV u s.mn) from funext fun u => same_symm _ _, same_cmp]
  simp
theorem known_ask {n : pr.Nd} {s : st.St} (h : n.op = 5 ∨ n.op = 6) (hc : ¬ s.c = 0) (hmn : s.mn.nul = false) (hmx : s.mx.nul = false) : ou.knownV n s = ⟨pr.askedV n s.mx == 0, s.hn, pr.askedV n s.mn == 2⟩ := by
  have e2 : ∀ b : Bool, (pr.yesI b == 2) = b := fun b => by cases b <;> rfl
  have e0 : ∀ b : Bool, (pr.yesI b == 0) = !b := fun b => by cases b <;> rfl
  unfold ou.knownV pr.askedV
  rcases h with h | h
  · simp only [h, hc, hmn, hmx, e2, e0, if_neg (show ¬ (5 : Int) = 9 by decide), if_neg (show ¬ (5 : Int) = 8 by decide), if_neg (show ¬ (5 : Int) = 7 by decide), if_neg (show ¬ (5 : Int) = 4 by decide), if_false, if_true, Bool.false_eq_true]
    congr 1
    rw [Bool.eq_iff_iff]; simp
  · simp only [h, hc, hmn, hmx, e2, e0, if_neg (show ¬ (6 : Int) = 9 by decide), if_neg (show ¬ (6 : Int) = 8 by decide), if_neg (show ¬ (6 : Int) = 7 by decide), if_neg (show ¬ (6 : Int) = 4 by decide), if_neg (show ¬ (6 : Int) = 5 by decide), if_false, if_true, Bool.false_eq_true]
    congr 1
    rw [Bool.eq_iff_iff]; simp

set_option maxRecDepth 100000 in
set_option maxHeartbeats 40000000 in
theorem known_any (w : World) (n : pr.Nd) (A : Option Addr) (m c : Nat) (S : List st.St) (hop : 4 ≤ n.op ∧ n.op ≤ 9) (hcol : n.op ≠ 9 → 0 ≤ n.col ∧ n.col < m) (hl : S.length = m) (hm : m ≤ 1000) (hn : Has w w.heap.size n) (hr : Row w w.heap.size A (scs S)) (hok : ∀ s ∈ S, SOk s) :
    Calls Tryd.prog 35 #[.agg n.cells, .slice A m c] w fun e w' => e = .returned (.agg (ou.knownV n (S.getD n.col.toNat nst)).cells) ∧ Below w.heap.size w w' := by
  obtain ⟨W, hW, bx, bo, hb⟩ := nd_t3_box w n 40 65
  have HB0 := hide hb
  have HW := hide hW
  have HX := hide bx
  have HO := hide bo
  have HR := hide hr
  have HN := hide ((hn.on hb (Nat.le_refl _)).more hb.size)
  have HRVV := hide hn.2.2.1
  obtain ⟨R, hR⟩ : ∃ R, ou.knownV n (S.getD n.col.toNat nst) = R := ⟨_, rfl⟩
  rw [hR]
  have HRR := hide hR
  obtain ⟨op, col, ⟨un, ui, us⟩, vA, vn, vc, vals, lA, ln, lc, L⟩ := n
  simp only [pr.Nd.cells, ou.T3.cells, ou.zero] at HX HW HO hop hcol HRR HRVV ⊢
  clear hW bx bo hb hr hn hR
  go_enter Tryd.func35, Tryd.ntmps35
  go_upto_region 1 with fail
  rw [HW.out]
  have g0 := HX.out.cell 0 (.int .i64 op) rfl
  have g1 := HX.out.cell 1 (.int .i64 col) rfl
  by_cases h9 : op = 9
  · subst h9
    have ha : R = ⟨false, false, true⟩ := by rw [← HRR.out]; rfl
    subst ha
    go_wp2_with (refine wpList_store_row rfl 65 _ _ rfl (w.heap.size + 1) #[.bool false, .bool false, .bool true] rfl rfl 65 _ HO.out (by kernel_rfl) rfl (t3_one ⟨false, false, true⟩) ?_)
    refine bodyPost_ret (box_results rfl _ (setRow_heap _ _ _ _ _ _ HO.out) rfl Tryd.underlying65 rfl rfl) rfl ?_
    exact ⟨rfl, below_setRow HB0.out (by omega) _⟩
  · have h9' : (op == 9) = false := by simpa using h9
    obtain ⟨j, rfl⟩ : ∃ j : Nat, col = j := ⟨col.toNat, by have := hcol h9; omega⟩
    have hj : (j : Int) < m := (hcol h9).2
    have hj0 : (0 : Int) ≤ (j : Int) := (hcol h9).1
    obtain ⟨s, hs⟩ : ∃ s, S[j]? = some s := ⟨_, List.getElem?_eq_getElem (by omega)⟩
    have HSO := hide (hok s (List.mem_of_getElem? hs))
    obtain ⟨bA, oA, rfl, hbA, -, hcl⟩ := row_st HR.out hs
    have HRV := hide (show ou.knownV ⟨op, j, ⟨un, ui, us⟩, vA, vn, vc, vals, lA, ln, lc, L⟩ s = R by
      have h := HRR.out
      rw [show ((j : Int)).toNat = j by omega, List.getD_eq_getElem?_getD, hs] at h
      exact h)
    have hcw : ∀ (i : Nat) u, (st.cells s)[i]? = some u → W.cell? ⟨bA, oA + j * 10 + i, none⟩ = some u := fun i u hu => (HB0.out.cell (p := ⟨bA, oA + j * 10 + i, none⟩) hbA).trans (hcl i u hu)
    have e0 := hcw 0 _ rfl
    have e1 := hcw 1 _ rfl
    have e2 := hcw 2 _ rfl
    have e3 := hcw 3 _ rfl
    have e4 := hcw 4 _ rfl
    have e5 := hcw 5 _ rfl
    have e6 := hcw 6 _ rfl
    have e7 := hcw 7 _ rfl
    have e8 := hcw 8 _ rfl
    have e9 := hcw 9 _ rfl
    rw [Nat.add_zero] at e0
    obtain ⟨X, hX, bX, hbX⟩ := st_box2 W s 47
    have HXX := hide hX
    have HLX := hide (show Le w X from HB0.out.trans hbX)
    have BN := hide (HX.out.below hbX HX.out.lt)
    have BO := hide (HO.out.below hbX HO.out.lt)
    have BS := hide bX
    have HNX := hide ((HN.out.on hbX (Nat.le_refl _)).more hbX.size)
    have hone := st_one s
    clear hcw hcl hs hX bX hbX HRR hok
    obtain ⟨cN, hn, ⟨mn, mi, ms⟩, ⟨xn, xi, xs⟩, su, ov⟩ := s
    simp only [st.cells, nst, zv] at e0 e1 e2 e3 e4 e5 e6 e7 e8 e9 HXX BS hone
    go_upto_region 4 with (refine wpList_store_row rfl 47 _ _ rfl W.heap.size _ rfl rfl 47 _ (box_new _ _ _) (by kernel_rfl) rfl hone ?_)
    rw [HXX.out]
    clear e0 e1 e2 e3 e4 e5 e6 e7 e8 e9 g0 g1 hone
    have g0 := BN.out.cell 0 (.int .i64 op) rfl
    have k0 := BS.out.cell 0 (.int .i64 cN) rfl
    have k1 := BS.out.cell 1 (.bool hn) rfl
    obtain ⟨so, hso⟩ : ∃ so, decide (0 < cN) = so := ⟨_, rfl⟩
    by_cases h8 : op = 8
    · subst h8
      have ha : R = ⟨so, false, hn⟩ := by rw [← HRV.out, ← hso]; rfl
      subst ha
      go_wp2_with (refine wpList_store_row rfl 65 _ _ rfl (w.heap.size + 1) #[.bool so, .bool false, .bool hn] (by first | rfl | (rw [← hso]; rfl)) rfl 65 _ BO.out (by kernel_rfl) rfl (t3_one ⟨so, false, hn⟩) ?_)
      refine bodyPost_ret (box_results rfl _ (setRow_heap _ _ _ _ _ _ BO.out) rfl Tryd.underlying65 rfl rfl) rfl ?_
      exact ⟨rfl, below_setRow HLX.out (by omega) _⟩
    · have h8' : (op == 8) = false := by simpa using h8
      obtain ⟨Y, hY, bY, hbY⟩ := t3_box2 X ⟨false, hn, false⟩ 65
      simp only [ou.T3.cells, ou.zero] at hY bY
      have HYY := hide hY
      have HLY := hide (show Le w Y from HLX.out.trans hbY)
      have YN := hide (BN.out.below hbY BN.out.lt)
      have YO := hide (BO.out.below hbY BO.out.lt)
      have YS := hide (BS.out.below hbY BS.out.lt)
      have YT := hide bY
      have HNY := hide ((HNX.out.on hbY (Nat.le_refl _)).more hbY.size)
      have hsz1 := BN.out.lt
      have hsz2 := BO.out.lt
      have hsz3 := BS.out.lt
      clear hY bY hbY
      go_upto_region 8 with (refine wpList_store_row rfl 65 _ _ rfl X.heap.size #[.bool false, .bool hn, .bool false] rfl rfl 65 _ (box_new _ _ _) (by kernel_rfl) rfl (t3_one ⟨false, hn, false⟩) ?_)
      rw [HYY.out]
      clear g0 k0 k1
      have y0 := YT.out.cell 0 (.bool false) rfl
      have y1 := YT.out.cell 1 (.bool hn) rfl
      have y2 := YT.out.cell 2 (.bool false) rfl
      cases so
      · have hc0 : cN = 0 := by
          have h1 := HSO.out.1
          simp only at h1
          have h2 := of_decide_eq_false hso
          omega
        have ha : R = ⟨false, hn, false⟩ := by
          rw [← HRV.out]
          unfold ou.knownV
          simp only [h9, h8, if_false, hc0, if_true]
        subst ha
        go_wp2_with (refine wpList_store_row rfl 65 _ _ rfl (w.heap.size + 1) #[.bool false, .bool hn, .bool false] rfl rfl 65 _ YO.out (by kernel_rfl) rfl (t3_one ⟨false, hn, false⟩) ?_)
        refine bodyPost_ret (box_results rfl _ (setRow_heap _ _ _ _ _ _ YO.out) rfl Tryd.underlying65 rfl rfl) rfl ?_
        exact ⟨rfl, below_setRow HLY.out (by omega) _⟩
      · have hc1 : 0 < cN := of_decide_eq_true hso
        have hc0 : ¬ cN = 0 := by omega
        obtain ⟨hmn, hmx⟩ := HSO.out.2 hc1
        simp only at hmn hmx
        subst hmn
        subst hmx
        obtain ⟨one, hone⟩ : ∃ b, pr.sameV ⟨false, mi, ms⟩ ⟨false, xi, xs⟩ = b := ⟨_, rfl⟩
        have HONE := hide hone
        have k2 := YS.out.cell 2 (.bool false) rfl
        have k3 := YS.out.cell 3 (.int .i64 mi) rfl
        have k4 := YS.out.cell 4 (.string ms) rfl
        have k5 := YS.out.cell 5 (.bool false) rfl
        have k6 := YS.out.cell 6 (.int .i64 xi) rfl
        have k7 := YS.out.cell 7 (.string xs) rfl
        go_upto_region 10 with fail
        go_cut [8] (fun s8 wx => s8 = .bool one ∧ Y = wx)
        case first =>
          go_wp2_with fail
          all_goals
            go_meet
            refine ⟨?_, rfl⟩
            rw [← HONE.out]
            unfold pr.sameV
            clear HONE hone HRV HSO HNY HNX HN
            simp_all
        case rest =>
          obtain ⟨rfl, rfl⟩ := hcut
          clear k2 k3 k4 k5 k6 k7
          have g0 := YN.out.cell 0 (.int .i64 op) rfl
          by_cases h4 : op = 4
          · subst h4
            go_upto_region 15 with fail
            obtain ⟨V, hV⟩ : ∃ V, Y.drew = V := ⟨_, rfl⟩
            have VN := hide (show Box V w.heap.size _ _ by rw [← hV]; exact YN.out.drew)
            have VS := hide (show Box V W.heap.size _ _ by rw [← hV]; exact YS.out.drew)
            have VT := hide (show Box V X.heap.size _ _ by rw [← hV]; exact YT.out.drew)
            have VO := hide (show Box V (w.heap.size + 1) _ _ by rw [← hV]; exact YO.out.drew)
            have HLV := hide (show Le w V by rw [← hV]; exact HLY.out.drew)
            have hszT := VT.out.lt
            have HV := hide hV
            obtain ⟨wi, hwi⟩ : ∃ b, ou.withinV ⟨cN, hn, ⟨false, mi, ms⟩, ⟨false, xi, xs⟩, su, ov⟩ ⟨un, ui, us⟩ = b := ⟨_, rfl⟩
            have hwc := hide (fun (w : World) => hwi ▸ within_any w ⟨cN, hn, ⟨false, mi, ms⟩, ⟨false, xi, xs⟩, su, ov⟩ ⟨un, ui, us⟩)
            simp only [st.cells] at hwc
            obtain ⟨sm, hsm⟩ : ∃ b, pr.sameV ⟨false, mi, ms⟩ ⟨un, ui, us⟩ = b := ⟨_, rfl⟩
            have HSM := hide hsm
            have ha : R = ⟨!one || !sm, hn, wi⟩ := by
              rw [← HRV.out, known_eq rfl hc0]
              simp only
              rw [hone, hsm, hwi]
            subst ha
            clear hV hwi hsm HONE hone
            have fn2 : ∀ W', Below X.heap.size V W' → W'.cell? ⟨w.heap.size, 2, none⟩ = some (.bool un) := fun W' h => (VN.out.below h (by omega)).cell 2 _ rfl
            have fn3 : ∀ W', Below X.heap.size V W' → W'.cell? ⟨w.heap.size, 3, none⟩ = some (.int .i64 ui) := fun W' h => (VN.out.below h (by omega)).cell 3 _ rfl
            have fn4 : ∀ W', Below X.heap.size V W' → W'.cell? ⟨w.heap.size, 4, none⟩ = some (.string us) := fun W' h => (VN.out.below h (by omega)).cell 4 _ rfl
            have fs0 : ∀ W', Below X.heap.size V W' → W'.cell? ⟨W.heap.size, 0, none⟩ = some (.int .i64 cN) := fun W' h => (VS.out.below h (by omega)).cell 0 _ rfl
            have fs1 : ∀ W', Below X.heap.size V W' → W'.cell? ⟨W.heap.size, 1, none⟩ = some (.bool hn) := fun W' h => (VS.out.below h (by omega)).cell 1 _ rfl
            have fs2 : ∀ W', Below X.heap.size V W' → W'.cell? ⟨W.heap.size, 2, none⟩ = some (.bool false) := fun W' h => (VS.out.below h (by omega)).cell 2 _ rfl
            have fs3 : ∀ W', Below X.heap.size V W' → W'.cell? ⟨W.heap.size, 3, none⟩ = some (.int .i64 mi) := fun W' h => (VS.out.below h (by omega)).cell 3 _ rfl
            have fs4 : ∀ W', Below X.heap.size V W' → W'.cell? ⟨W.heap.size, 4, none⟩ = some (.string ms) := fun W' h => (VS.out.below h (by omega)).cell 4 _ rfl
            have fs5 : ∀ W', Below X.heap.size V W' → W'.cell? ⟨W.heap.size, 5, none⟩ = some (.bool false) := fun W' h => (VS.out.below h (by omega)).cell 5 _ rfl
            have fs6 : ∀ W', Below X.heap.size V W' → W'.cell? ⟨W.heap.size, 6, none⟩ = some (.int .i64 xi) := fun W' h => (VS.out.below h (by omega)).cell 6 _ rfl
            have fs7 : ∀ W', Below X.heap.size V W' → W'.cell? ⟨W.heap.size, 7, none⟩ = some (.string xs) := fun W' h => (VS.out.below h (by omega)).cell 7 _ rfl
            have fs8 : ∀ W', Below X.heap.size V W' → W'.cell? ⟨W.heap.size, 8, none⟩ = some (.int .i64 su) := fun W' h => (VS.out.below h (by omega)).cell 8 _ rfl
            have fs9 : ∀ W', Below X.heap.size V W' → W'.cell? ⟨W.heap.size, 9, none⟩ = some (.bool ov) := fun W' h => (VS.out.below h (by omega)).cell 9 _ rfl
            refine region_pib (B := X.heap.size) [(0, true), (1, true), (2, true), (4, true), (5, true), (3, false), (6, true), (7, true), (8, true), (9, true), (10, true), (11, true), (12, true), (13, true), (14, false), (15, true), (16, false)] (by kernel_rfl) (by kernel_rfl) ?_
            simp only [opsPi, List.filterMap_cons, List.filterMap_nil, List.getElem?_toArray, List.getElem?_cons_zero, List.getElem?_cons_succ, Option.map_some]
            rw [HV.out]
            repeat (first | (refine pib_take (v := _) rfl (fun W hW => by go_simp <;> exact rfl) ?_; simp only [Act.put, List.setIfInBounds_toArray, List.set_cons_zero, List.set_cons_succ]) | (refine pib_skip rfl ?_; simp only [Act.put, List.setIfInBounds_toArray, List.set_cons_zero, List.set_cons_succ]))
            refine pib_run ?_
            go_wp2_with fail
            refine (hwc.out V).mono ?_
            rintro e w1 ⟨rfl, hb1⟩
            have N1 := hide (VN.out.below hb1 VN.out.lt)
            have S1 := hide (VS.out.below hb1 VS.out.lt)
            have T1 := hide (VT.out.below hb1 VT.out.lt)
            have O1 := hide (VO.out.below hb1 VO.out.lt)
            have HL1 := hide (show Le w w1 from HLV.out.trans hb1)
            clear fn2 fn3 fn4 fs0 fs1 fs2 fs3 fs4 fs5 fs6 fs7 fs8 fs9
            go_wp2_with fail
            refine ⟨hb1.mono (by omega), ?_⟩
            clear hb1
            have fn2 : ∀ W', Below X.heap.size w1 W' → W'.cell? ⟨w.heap.size, 2, none⟩ = some (.bool un) := fun W' h => (N1.out.below h (by omega)).cell 2 _ rfl
            have fn3 : ∀ W', Below X.heap.size w1 W' → W'.cell? ⟨w.heap.size, 3, none⟩ = some (.int .i64 ui) := fun W' h => (N1.out.below h (by omega)).cell 3 _ rfl
            have fn4 : ∀ W', Below X.heap.size w1 W' → W'.cell? ⟨w.heap.size, 4, none⟩ = some (.string us) := fun W' h => (N1.out.below h (by omega)).cell 4 _ rfl
            have fs2 : ∀ W', Below X.heap.size w1 W' → W'.cell? ⟨W.heap.size, 2, none⟩ = some (.bool false) := fun W' h => (S1.out.below h (by omega)).cell 2 _ rfl
            have fs3 : ∀ W', Below X.heap.size w1 W' → W'.cell? ⟨W.heap.size, 3, none⟩ = some (.int .i64 mi) := fun W' h => (S1.out.below h (by omega)).cell 3 _ rfl
            have fs4 : ∀ W', Below X.heap.size w1 W' → W'.cell? ⟨W.heap.size, 4, none⟩ = some (.string ms) := fun W' h => (S1.out.below h (by omega)).cell 4 _ rfl
            have z0 := T1.out.frozen 0
            have z2 := T1.out.frozen 2
            have t0 := T1.out.cell 0 _ rfl
            have t2 := T1.out.cell 2 _ rfl
            cases one
            · skip
              repeat (first | (refine pib_take (v := _) rfl (fun W hW => by go_simp <;> exact rfl) ?_; simp only [Act.put, List.setIfInBounds_toArray, List.set_cons_zero, List.set_cons_succ]) | (refine pib_skip rfl ?_; simp only [Act.put, List.setIfInBounds_toArray, List.set_cons_zero, List.set_cons_succ]))
              clear fn2 fn3 fn4 fs2 fs3 fs4
              refine pib_run ?_
              go_wp2_with fail
              refine ⟨below_self _ _ _ _, ?_⟩
              repeat (first | (refine pib_take (v := _) rfl (fun W hW => by go_simp <;> exact rfl) ?_; simp only [Act.put, List.setIfInBounds_toArray, List.set_cons_zero, List.set_cons_succ]) | (refine pib_skip rfl ?_; simp only [Act.put, List.setIfInBounds_toArray, List.set_cons_zero, List.set_cons_succ]))
              refine pib_run ?_
              go_wp2_with fail
              refine ⟨below_self _ _ _ _, ?_⟩
              refine pib_done ?_
              obtain ⟨Z, hZ⟩ : ∃ Z, (w1.setCell ⟨X.heap.size, 2, none⟩ (.bool wi)).setCell ⟨X.heap.size, 0, none⟩ (.bool true) = Z := ⟨_, rfl⟩
              have ZT := hide (show Box Z X.heap.size #[.bool true, .bool hn, .bool wi] _ by rw [← hZ]; exact (T1.out.set 2 _).set 0 _)
              have ZO := hide (show Box Z (w.heap.size + 1) _ _ by rw [← hZ]; exact (O1.out.other (by simp; omega) _).other (by simp; omega) _)
              have HLZ := hide (show Le w Z by rw [← hZ]; exact (HL1.out.setCell (by simp; omega) _).setCell (by simp; omega) _)
              rw [hZ]
              clear hZ z0 z2 t0 t2
              clear y0 y1 y2
              have y0 := ZT.out.cell 0 (.bool true) rfl
              have y1 := ZT.out.cell 1 (.bool hn) rfl
              have y2 := ZT.out.cell 2 (.bool wi) rfl
              go_wp2_with (refine wpList_store_row rfl 65 _ _ rfl (w.heap.size + 1) #[.bool true, .bool hn, .bool wi] rfl rfl 65 _ ZO.out (by kernel_rfl) rfl (t3_one ⟨true, hn, wi⟩) ?_)
              refine bodyPost_ret (box_results rfl _ (setRow_heap _ _ _ _ _ _ ZO.out) rfl Tryd.underlying65 rfl rfl) rfl ?_
              exact ⟨rfl, below_setRow HLZ.out (by omega) _⟩
            · skip
              repeat (first | (refine pib_take (v := _) rfl (fun W hW => by go_simp <;> exact rfl) ?_; simp only [Act.put, List.setIfInBounds_toArray, List.set_cons_zero, List.set_cons_succ]) | (refine pib_skip rfl ?_; simp only [Act.put, List.setIfInBounds_toArray, List.set_cons_zero, List.set_cons_succ]))
              refine pib_take (v := .bool (!sm)) rfl (fun W' hW' => ?_) ?_
              · clear fn2 fn3 fn4 fs2 fs3 fs4
                go_simp
                rw [← HSM.out]
                unfold pr.sameV
                repeat' split
                all_goals simp_all
              simp only [Act.put, List.setIfInBounds_toArray, List.set_cons_zero, List.set_cons_succ]
              repeat (first | (refine pib_take (v := _) rfl (fun W hW => by go_simp <;> exact rfl) ?_; simp only [Act.put, List.setIfInBounds_toArray, List.set_cons_zero, List.set_cons_succ]) | (refine pib_skip rfl ?_; simp only [Act.put, List.setIfInBounds_toArray, List.set_cons_zero, List.set_cons_succ]))
              clear fn2 fn3 fn4 fs2 fs3 fs4
              refine pib_run ?_
              go_wp2_with fail
              refine ⟨below_self _ _ _ _, ?_⟩
              repeat (first | (refine pib_take (v := _) rfl (fun W hW => by go_simp <;> exact rfl) ?_; simp only [Act.put, List.setIfInBounds_toArray, List.set_cons_zero, List.set_cons_succ]) | (refine pib_skip rfl ?_; simp only [Act.put, List.setIfInBounds_toArray, List.set_cons_zero, List.set_cons_succ]))
              refine pib_run ?_
              go_wp2_with fail
              refine ⟨below_self _ _ _ _, ?_⟩
              refine pib_done ?_
              obtain ⟨Z, hZ⟩ : ∃ Z, (w1.setCell ⟨X.heap.size, 2, none⟩ (.bool wi)).setCell ⟨X.heap.size, 0, none⟩ (.bool (!sm)) = Z := ⟨_, rfl⟩
              have ZT := hide (show Box Z X.heap.size #[.bool (!sm), .bool hn, .bool wi] _ by rw [← hZ]; exact (T1.out.set 2 _).set 0 _)
              have ZO := hide (show Box Z (w.heap.size + 1) _ _ by rw [← hZ]; exact (O1.out.other (by simp; omega) _).other (by simp; omega) _)
              have HLZ := hide (show Le w Z by rw [← hZ]; exact (HL1.out.setCell (by simp; omega) _).setCell (by simp; omega) _)
              rw [hZ]
              clear hZ z0 z2 t0 t2
              clear y0 y1 y2
              have y0 := ZT.out.cell 0 (.bool (!sm)) rfl
              have y1 := ZT.out.cell 1 (.bool hn) rfl
              have y2 := ZT.out.cell 2 (.bool wi) rfl
              go_wp2_with (refine wpList_store_row rfl 65 _ _ rfl (w.heap.size + 1) #[.bool (!sm), .bool hn, .bool wi] rfl rfl 65 _ ZO.out (by kernel_rfl) rfl (t3_one ⟨(!sm), hn, wi⟩) ?_)
              refine bodyPost_ret (box_results rfl _ (setRow_heap _ _ _ _ _ _ ZO.out) rfl Tryd.underlying65 rfl rfl) rfl ?_
              exact ⟨rfl, below_setRow HLZ.out (by omega) _⟩
          · have h4' : (op == 4) = false := by simpa using h4
            by_cases h7 : op = 7
            · subst h7
              obtain ⟨wi, hwi⟩ : ∃ b, vals.any (ou.withinV ⟨cN, hn, ⟨false, mi, ms⟩, ⟨false, xi, xs⟩, su, ov⟩) = b := ⟨_, rfl⟩
              have hcf := hide (hwi ▸ containsk_any Y W.heap.size ⟨cN, hn, ⟨false, mi, ms⟩, ⟨false, xi, xs⟩, su, ov⟩ vA vn vc vals YS.out HNY.out.1 HNY.out.2.1 HNY.out.2.2.1)
              obtain ⟨sm, hsm⟩ : ∃ b, (vals.any fun u => pr.sameV ⟨false, mi, ms⟩ u) = b := ⟨_, rfl⟩
              have hcn := hide (fun (w1 : World) (h : Row w1 w1.heap.size vA (vcs vals)) => hsm ▸ contains_any w1 vA vn vc vals HNY.out.1 HNY.out.2.1 h ⟨false, mi, ms⟩)
              have ha : R = ⟨!one || !sm, hn, wi⟩ := by
                rw [← HRV.out, known_in rfl hc0]
                simp only
                rw [hone, hsm, hwi]
              subst ha
              clear hwi hsm HONE hone
              have g5 := YN.out.cell 5 (.slice vA vn vc) rfl
              go_wp2_with fail
              refine hcf.out.mono ?_
              rintro e w1 ⟨rfl, hb1⟩
              have T1 := hide (YT.out.below hb1 YT.out.lt)
              have O1 := hide (YO.out.below hb1 YO.out.lt)
              have N1 := hide (YN.out.below hb1 YN.out.lt)
              have S1 := hide (YS.out.below hb1 YS.out.lt)
              have HL1 := hide (show Le w w1 from HLY.out.trans hb1)
              have HR1 := hide (Le.row hb1 HNY.out.2.2.1 (Nat.le_refl _))
              have hs1 := hb1.size
              have hszT := YT.out.lt
              clear hb1 g5
              have z2 := T1.out.frozen 2
              have t2 := T1.out.cell 2 _ rfl
              go_upto_region 18 with fail
              obtain ⟨Y1, hY1⟩ : ∃ Z, w1.setCell ⟨X.heap.size, 2, none⟩ (.bool wi) = Z := ⟨_, rfl⟩
              have T2 := hide (show Box Y1 X.heap.size #[.bool false, .bool hn, .bool wi] _ by rw [← hY1]; exact T1.out.set 2 _)
              have O2 := hide (show Box Y1 (w.heap.size + 1) _ _ by rw [← hY1]; exact O1.out.other (by simp; omega) _)
              have N2 := hide (show Box Y1 w.heap.size _ _ by rw [← hY1]; exact N1.out.other (by simp; omega) _)
              have S2 := hide (show Box Y1 W.heap.size _ _ by rw [← hY1]; exact S1.out.other (by simp; omega) _)
              have HL2 := hide (show Le w Y1 by rw [← hY1]; exact HL1.out.setCell (by simp; omega) _)
              rw [hY1]
              clear hY1 z2 t2
              have z0 := T2.out.frozen 0
              have t0 := T2.out.cell 0 _ rfl
              have HR2 := hide (show Row Y1 Y1.heap.size vA (vcs vals) from (HL2.out.row HRVV.out (Nat.le_refl _)).more HL2.out.size)
              cases one
              · go_upto_region 19 with fail
                obtain ⟨Z, hZ⟩ : ∃ Z, Y1.setCell ⟨X.heap.size, 0, none⟩ (.bool true) = Z := ⟨_, rfl⟩
                have ZT := hide (show Box Z X.heap.size #[.bool true, .bool hn, .bool wi] _ by rw [← hZ]; exact T2.out.set 0 _)
                have ZO := hide (show Box Z (w.heap.size + 1) _ _ by rw [← hZ]; exact O2.out.other (by simp; omega) _)
                have HLZ := hide (show Le w Z by rw [← hZ]; exact HL2.out.setCell (by simp; omega) _)
                rw [hZ]
                clear hZ z0 t0
                clear y0 y1 y2
                have y0 := ZT.out.cell 0 (.bool true) rfl
                have y1 := ZT.out.cell 1 (.bool hn) rfl
                have y2 := ZT.out.cell 2 (.bool wi) rfl
                go_wp2_with (refine wpList_store_row rfl 65 _ _ rfl (w.heap.size + 1) #[.bool true, .bool hn, .bool wi] rfl rfl 65 _ ZO.out (by kernel_rfl) rfl (t3_one ⟨true, hn, wi⟩) ?_)
                refine bodyPost_ret (box_results rfl _ (setRow_heap _ _ _ _ _ _ ZO.out) rfl Tryd.underlying65 rfl rfl) rfl ?_
                exact ⟨rfl, below_setRow HLZ.out (by omega) _⟩
              · have g5 := N2.out.cell 5 (.slice vA vn vc) rfl
                have k2 := S2.out.cell 2 (.bool false) rfl
                have k3 := S2.out.cell 3 (.int .i64 mi) rfl
                have k4 := S2.out.cell 4 (.string ms) rfl
                go_wp2_with fail
                refine (hcn.out Y1 HR2.out).mono ?_
                rintro e w2 ⟨rfl, hb2⟩
                have T3 := hide (T2.out.below hb2 T2.out.lt)
                have O3 := hide (O2.out.below hb2 O2.out.lt)
                have HL3 := hide (show Le w w2 from HL2.out.trans hb2)
                clear hb2 g5 k2 k3 k4 z0 t0
                have z0 := T3.out.frozen 0
                have t0 := T3.out.cell 0 _ rfl
                go_upto_region 19 with fail
                obtain ⟨Z, hZ⟩ : ∃ Z, w2.setCell ⟨X.heap.size, 0, none⟩ (.bool (!sm)) = Z := ⟨_, rfl⟩
                have ZT := hide (show Box Z X.heap.size #[.bool (!sm), .bool hn, .bool wi] _ by rw [← hZ]; exact T3.out.set 0 _)
                have ZO := hide (show Box Z (w.heap.size + 1) _ _ by rw [← hZ]; exact O3.out.other (by simp; omega) _)
                have HLZ := hide (show Le w Z by rw [← hZ]; exact HL3.out.setCell (by simp; omega) _)
                rw [hZ]
                clear hZ z0 t0
                clear y0 y1 y2
                have y0 := ZT.out.cell 0 (.bool (!sm)) rfl
                have y1 := ZT.out.cell 1 (.bool hn) rfl
                have y2 := ZT.out.cell 2 (.bool wi) rfl
                go_wp2_with (refine wpList_store_row rfl 65 _ _ rfl (w.heap.size + 1) #[.bool (!sm), .bool hn, .bool wi] rfl rfl 65 _ ZO.out (by kernel_rfl) rfl (t3_one ⟨(!sm), hn, wi⟩) ?_)
                refine bodyPost_ret (box_results rfl _ (setRow_heap _ _ _ _ _ _ ZO.out) rfl Tryd.underlying65 rfl rfl) rfl ?_
                exact ⟨rfl, below_setRow HLZ.out (by omega) _⟩
            · have h56 : op = 5 ∨ op = 6 := by omega
              have hop2 := hop
              have hask := hide (fun (v : va.Val) (w1 : World) (b : Nat) (h : Row w1 w1.heap.size (some ⟨b, 0, none⟩) (vcs (List.replicate j zv ++ [v]))) (h2 : Row w1 w1.heap.size vA (vcs vals)) => asked_row ⟨op, j, ⟨un, ui, us⟩, vA, vn, vc, vals, lA, ln, lc, L⟩ j rfl v ▸ asked_any w1 ⟨op, j, ⟨un, ui, us⟩, vA, vn, vc, vals, lA, ln, lc, L⟩ (some ⟨b, 0, none⟩) (j + 1) (j + 1) (List.replicate j zv ++ [v]) hop (fun _ => ⟨hj0, by show (j : Int) < ((j + 1 : Nat) : Int); omega⟩) (by simp) (by omega) HNY.out.1 HNY.out.2.1 h h2)
              obtain ⟨q1, hq1⟩ : ∃ q, pr.askedV ⟨op, j, ⟨un, ui, us⟩, vA, vn, vc, vals, lA, ln, lc, L⟩ ⟨false, mi, ms⟩ = q := ⟨_, rfl⟩
              obtain ⟨q2, hq2⟩ : ∃ q, pr.askedV ⟨op, j, ⟨un, ui, us⟩, vA, vn, vc, vals, lA, ln, lc, L⟩ ⟨false, xi, xs⟩ = q := ⟨_, rfl⟩
              have ha1 := hide (fun (w1 : World) (b : Nat) h h2 => hq1 ▸ hask.out ⟨false, mi, ms⟩ w1 b h h2)
              have ha2 := hide (fun (w1 : World) (b : Nat) h h2 => hq2 ▸ hask.out ⟨false, xi, xs⟩ w1 b h h2)
              simp only [pr.Nd.cells] at ha1 ha2
              obtain ⟨y, hy⟩ : ∃ b, (q1 == 2) = b := ⟨_, rfl⟩
              obtain ⟨x, hx⟩ : ∃ b, (q2 == 0) = b := ⟨_, rfl⟩
              have ha : R = ⟨x, hn, y⟩ := by
                rw [← HRV.out, known_ask h56 hc0 rfl rfl]
                simp only
                rw [hq1, hq2, hx, hy]
              subst ha
              have YL : True := trivial
              clear HONE hone hask hq1 hq2 HRV
              go_upto_region 12 with fail
              obtain ⟨Va, hVa⟩ : ∃ V, Y.drew = V := ⟨_, rfl⟩
              have VNa := hide (show Box Va w.heap.size _ _ by rw [← hVa]; exact YN.out.drew)
              have VSa := hide (show Box Va W.heap.size _ _ by rw [← hVa]; exact YS.out.drew)
              have VTa := hide (show Box Va X.heap.size _ _ by rw [← hVa]; exact YT.out.drew)
              have VOa := hide (show Box Va (w.heap.size + 1) _ _ by rw [← hVa]; exact YO.out.drew)
              have HLVa := hide (show Le w Va by rw [← hVa]; exact HLY.out.drew)
              have hszTa := VTa.out.lt
              have HVa := hide hVa
              clear hVa
              have fn0 : ∀ W', Below X.heap.size Va W' → W'.cell? ⟨w.heap.size, 0, none⟩ = some (.int .i64 op) := fun W' h => (VNa.out.below h (by omega)).cell 0 _ rfl
              have fn1 : ∀ W', Below X.heap.size Va W' → W'.cell? ⟨w.heap.size, 1, none⟩ = some (.int .i64 j) := fun W' h => (VNa.out.below h (by omega)).cell 1 _ rfl
              have fn2 : ∀ W', Below X.heap.size Va W' → W'.cell? ⟨w.heap.size, 2, none⟩ = some (.bool un) := fun W' h => (VNa.out.below h (by omega)).cell 2 _ rfl
              have fn3 : ∀ W', Below X.heap.size Va W' → W'.cell? ⟨w.heap.size, 3, none⟩ = some (.int .i64 ui) := fun W' h => (VNa.out.below h (by omega)).cell 3 _ rfl
              have fn4 : ∀ W', Below X.heap.size Va W' → W'.cell? ⟨w.heap.size, 4, none⟩ = some (.string us) := fun W' h => (VNa.out.below h (by omega)).cell 4 _ rfl
              have fn5 : ∀ W', Below X.heap.size Va W' → W'.cell? ⟨w.heap.size, 5, none⟩ = some (.slice vA vn vc) := fun W' h => (VNa.out.below h (by omega)).cell 5 _ rfl
              have fn6 : ∀ W', Below X.heap.size Va W' → W'.cell? ⟨w.heap.size, 6, none⟩ = some (.slice lA ln lc) := fun W' h => (VNa.out.below h (by omega)).cell 6 _ rfl
              have fs2 : ∀ W', Below X.heap.size Va W' → W'.cell? ⟨W.heap.size, 2, none⟩ = some (.bool false) := fun W' h => (VSa.out.below h (by omega)).cell 2 _ rfl
              have fs3 : ∀ W', Below X.heap.size Va W' → W'.cell? ⟨W.heap.size, 3, none⟩ = some (.int .i64 mi) := fun W' h => (VSa.out.below h (by omega)).cell 3 _ rfl
              have fs4 : ∀ W', Below X.heap.size Va W' → W'.cell? ⟨W.heap.size, 4, none⟩ = some (.string ms) := fun W' h => (VSa.out.below h (by omega)).cell 4 _ rfl
              refine region_pib (B := X.heap.size) [(0, true), (1, true), (2, true), (3, true), (4, false), (5, false), (6, true), (7, true), (8, false)] (by kernel_rfl) (by kernel_rfl) ?_
              simp only [opsPi, List.filterMap_cons, List.filterMap_nil, List.getElem?_toArray, List.getElem?_cons_zero, List.getElem?_cons_succ, Option.map_some]
              rw [HVa.out]
              repeat (first | (refine pib_take (v := _) rfl (fun W hW => by go_simp <;> exact rfl) ?_; simp only [Act.put, List.setIfInBounds_toArray, List.set_cons_zero, List.set_cons_succ]) | (refine pib_skip rfl ?_; simp only [Act.put, List.setIfInBounds_toArray, List.set_cons_zero, List.set_cons_succ]))
              clear fn0 fn1 fn2 fn3 fn4 fn5 fn6 fs2 fs3 fs4
              refine pib_run ?_
              go_wp2_with fail
              refine (ending_any Va ⟨op, j, ⟨un, ui, us⟩, vA, vn, vc, vals, lA, ln, lc, L⟩ ⟨false, mi, ms⟩ j rfl (by omega)).mono ?_
              rintro e w1a ⟨b1a, rfl, hrowa, hb1a⟩
              have HRRa := hide hrowa
              have HB1a := hide hb1a
              have hs1a := hb1a.size
              have HLLa := hide (show Le w w1a from HLVa.out.trans hb1a)
              clear hrowa hb1a
              go_wp2_with fail
              refine ⟨HB1a.out.mono (by omega), ?_⟩
              repeat (first | (refine pib_take (v := _) rfl (fun W hW => by go_simp <;> exact rfl) ?_; simp only [Act.put, List.setIfInBounds_toArray, List.set_cons_zero, List.set_cons_succ]) | (refine pib_skip rfl ?_; simp only [Act.put, List.setIfInBounds_toArray, List.set_cons_zero, List.set_cons_succ]))
              refine pib_run ?_
              go_wp2_with fail
              refine (ha1.out w1a b1a HRRa.out ((HLLa.out.row HRVV.out (Nat.le_refl _)).more HLLa.out.size)).mono ?_
              rintro e w2a ⟨rfl, hb2a⟩
              have HB2a := hide hb2a
              have N1a := hide ((VNa.out.below HB1a.out VNa.out.lt).below hb2a (by omega))
              have S1a := hide ((VSa.out.below HB1a.out VSa.out.lt).below hb2a (by omega))
              have T1a := hide ((VTa.out.below HB1a.out VTa.out.lt).below hb2a (by omega))
              have O1a := hide ((VOa.out.below HB1a.out VOa.out.lt).below hb2a (by omega))
              have HL2a := hide (show Le w w2a from HLLa.out.trans hb2a)
              clear hb2a
              go_wp2_with fail
              refine ⟨HB2a.out.mono (by omega), ?_⟩
              have z := T1a.out.frozen 2
              have t := T1a.out.cell 2 _ rfl
              repeat (first | (refine pib_take (v := _) rfl (fun W hW => by go_simp <;> exact rfl) ?_; simp only [Act.put, List.setIfInBounds_toArray, List.set_cons_zero, List.set_cons_succ]) | (refine pib_skip rfl ?_; simp only [Act.put, List.setIfInBounds_toArray, List.set_cons_zero, List.set_cons_succ]))
              refine pib_run ?_
              go_wp2_with fail
              refine ⟨below_self _ _ _ _, ?_⟩
              refine pib_done ?_
              clear z t
              obtain ⟨P, hP⟩ : ∃ Z, w2a.setCell ⟨X.heap.size, 2, none⟩ (.bool y) = Z := ⟨_, rfl⟩
              rw [hP]
              have PT := hide (show Box P X.heap.size #[.bool false, .bool hn, .bool y] _ by rw [← hP]; exact T1a.out.set 2 _)
              have PO := hide (show Box P (w.heap.size + 1) _ _ by rw [← hP]; exact O1a.out.other (by simp; omega) _)
              have PN := hide (show Box P w.heap.size _ _ by rw [← hP]; exact N1a.out.other (by simp; omega) _)
              have PS := hide (show Box P W.heap.size _ _ by rw [← hP]; exact S1a.out.other (by simp; omega) _)
              have HLP := hide (show Le w P by rw [← hP]; exact HL2a.out.setCell (by simp; omega) _)
              clear hP
              clear y0 y1 y2 g0
              go_upto_region 13 with fail
              obtain ⟨Vb, hVb⟩ : ∃ V, P.drew = V := ⟨_, rfl⟩
              have VNb := hide (show Box Vb w.heap.size _ _ by rw [← hVb]; exact PN.out.drew)
              have VSb := hide (show Box Vb W.heap.size _ _ by rw [← hVb]; exact PS.out.drew)
              have VTb := hide (show Box Vb X.heap.size _ _ by rw [← hVb]; exact PT.out.drew)
              have VOb := hide (show Box Vb (w.heap.size + 1) _ _ by rw [← hVb]; exact PO.out.drew)
              have HLVb := hide (show Le w Vb by rw [← hVb]; exact HLP.out.drew)
              have hszTb := VTb.out.lt
              have HVb := hide hVb
              clear hVb
              have fn0 : ∀ W', Below X.heap.size Vb W' → W'.cell? ⟨w.heap.size, 0, none⟩ = some (.int .i64 op) := fun W' h => (VNb.out.below h (by omega)).cell 0 _ rfl
              have fn1 : ∀ W', Below X.heap.size Vb W' → W'.cell? ⟨w.heap.size, 1, none⟩ = some (.int .i64 j) := fun W' h => (VNb.out.below h (by omega)).cell 1 _ rfl
              have fn2 : ∀ W', Below X.heap.size Vb W' → W'.cell? ⟨w.heap.size, 2, none⟩ = some (.bool un) := fun W' h => (VNb.out.below h (by omega)).cell 2 _ rfl
              have fn3 : ∀ W', Below X.heap.size Vb W' → W'.cell? ⟨w.heap.size, 3, none⟩ = some (.int .i64 ui) := fun W' h => (VNb.out.below h (by omega)).cell 3 _ rfl
              have fn4 : ∀ W', Below X.heap.size Vb W' → W'.cell? ⟨w.heap.size, 4, none⟩ = some (.string us) := fun W' h => (VNb.out.below h (by omega)).cell 4 _ rfl
              have fn5 : ∀ W', Below X.heap.size Vb W' → W'.cell? ⟨w.heap.size, 5, none⟩ = some (.slice vA vn vc) := fun W' h => (VNb.out.below h (by omega)).cell 5 _ rfl
              have fn6 : ∀ W', Below X.heap.size Vb W' → W'.cell? ⟨w.heap.size, 6, none⟩ = some (.slice lA ln lc) := fun W' h => (VNb.out.below h (by omega)).cell 6 _ rfl
              have fs5 : ∀ W', Below X.heap.size Vb W' → W'.cell? ⟨W.heap.size, 5, none⟩ = some (.bool false) := fun W' h => (VSb.out.below h (by omega)).cell 5 _ rfl
              have fs6 : ∀ W', Below X.heap.size Vb W' → W'.cell? ⟨W.heap.size, 6, none⟩ = some (.int .i64 xi) := fun W' h => (VSb.out.below h (by omega)).cell 6 _ rfl
              have fs7 : ∀ W', Below X.heap.size Vb W' → W'.cell? ⟨W.heap.size, 7, none⟩ = some (.string xs) := fun W' h => (VSb.out.below h (by omega)).cell 7 _ rfl
              refine region_pib (B := X.heap.size) [(0, true), (1, true), (2, true), (3, true), (4, false), (5, false), (6, true), (7, true), (8, false)] (by kernel_rfl) (by kernel_rfl) ?_
              simp only [opsPi, List.filterMap_cons, List.filterMap_nil, List.getElem?_toArray, List.getElem?_cons_zero, List.getElem?_cons_succ, Option.map_some]
              rw [HVb.out]
              repeat (first | (refine pib_take (v := _) rfl (fun W hW => by go_simp <;> exact rfl) ?_; simp only [Act.put, List.setIfInBounds_toArray, List.set_cons_zero, List.set_cons_succ]) | (refine pib_skip rfl ?_; simp only [Act.put, List.setIfInBounds_toArray, List.set_cons_zero, List.set_cons_succ]))
              clear fn0 fn1 fn2 fn3 fn4 fn5 fn6 fs5 fs6 fs7
              refine pib_run ?_
              go_wp2_with fail
              refine (ending_any Vb ⟨op, j, ⟨un, ui, us⟩, vA, vn, vc, vals, lA, ln, lc, L⟩ ⟨false, xi, xs⟩ j rfl (by omega)).mono ?_
              rintro e w1b ⟨b1b, rfl, hrowb, hb1b⟩
              have HRRb := hide hrowb
              have HB1b := hide hb1b
              have hs1b := hb1b.size
              have HLLb := hide (show Le w w1b from HLVb.out.trans hb1b)
              clear hrowb hb1b
              go_wp2_with fail
              refine ⟨HB1b.out.mono (by omega), ?_⟩
              repeat (first | (refine pib_take (v := _) rfl (fun W hW => by go_simp <;> exact rfl) ?_; simp only [Act.put, List.setIfInBounds_toArray, List.set_cons_zero, List.set_cons_succ]) | (refine pib_skip rfl ?_; simp only [Act.put, List.setIfInBounds_toArray, List.set_cons_zero, List.set_cons_succ]))
              refine pib_run ?_
              go_wp2_with fail
              refine (ha2.out w1b b1b HRRb.out ((HLLb.out.row HRVV.out (Nat.le_refl _)).more HLLb.out.size)).mono ?_
              rintro e w2b ⟨rfl, hb2b⟩
              have HB2b := hide hb2b
              have N1b := hide ((VNb.out.below HB1b.out VNb.out.lt).below hb2b (by omega))
              have S1b := hide ((VSb.out.below HB1b.out VSb.out.lt).below hb2b (by omega))
              have T1b := hide ((VTb.out.below HB1b.out VTb.out.lt).below hb2b (by omega))
              have O1b := hide ((VOb.out.below HB1b.out VOb.out.lt).below hb2b (by omega))
              have HL2b := hide (show Le w w2b from HLLb.out.trans hb2b)
              clear hb2b
              go_wp2_with fail
              refine ⟨HB2b.out.mono (by omega), ?_⟩
              have z := T1b.out.frozen 0
              have t := T1b.out.cell 0 _ rfl
              repeat (first | (refine pib_take (v := _) rfl (fun W hW => by go_simp <;> exact rfl) ?_; simp only [Act.put, List.setIfInBounds_toArray, List.set_cons_zero, List.set_cons_succ]) | (refine pib_skip rfl ?_; simp only [Act.put, List.setIfInBounds_toArray, List.set_cons_zero, List.set_cons_succ]))
              refine pib_run ?_
              go_wp2_with fail
              refine ⟨below_self _ _ _ _, ?_⟩
              refine pib_done ?_
              clear z t
              obtain ⟨Z, hZ⟩ : ∃ Z, w2b.setCell ⟨X.heap.size, 0, none⟩ (.bool x) = Z := ⟨_, rfl⟩
              rw [hZ]
              have ZT := hide (show Box Z X.heap.size #[.bool x, .bool hn, .bool y] _ by rw [← hZ]; exact T1b.out.set 0 _)
              have ZO := hide (show Box Z (w.heap.size + 1) _ _ by rw [← hZ]; exact O1b.out.other (by simp; omega) _)
              have ZN := hide (show Box Z w.heap.size _ _ by rw [← hZ]; exact N1b.out.other (by simp; omega) _)
              have ZS := hide (show Box Z W.heap.size _ _ by rw [← hZ]; exact S1b.out.other (by simp; omega) _)
              have HLZ := hide (show Le w Z by rw [← hZ]; exact HL2b.out.setCell (by simp; omega) _)
              clear hZ
              have y0 : True := trivial
              have y1 : True := trivial
              have y2 : True := trivial
              clear y0 y1 y2
              have y0 := ZT.out.cell 0 (.bool x) rfl
              have y1 := ZT.out.cell 1 (.bool hn) rfl
              have y2 := ZT.out.cell 2 (.bool y) rfl
              go_wp2_with (refine wpList_store_row rfl 65 _ _ rfl (w.heap.size + 1) #[.bool x, .bool hn, .bool y] rfl rfl 65 _ ZO.out (by kernel_rfl) rfl (t3_one ⟨x, hn, y⟩) ?_)
              refine bodyPost_ret (box_results rfl _ (setRow_heap _ _ _ _ _ _ ZO.out) rfl Tryd.underlying65 rfl rfl) rfl ?_
              exact ⟨rfl, below_setRow HLZ.out (by omega) _⟩
#print axioms known_any
end Go.Proofs.YtklgmojojgoaeaaDoor
