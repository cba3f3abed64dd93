/-
  What is gone, struck, walked (slices.Compact; written by genVwGc.py out of XVwZ).
-/
import Derived.Test.YtjedpjfmlaganaaVwGs
import Derived.Test.YtjedpjfmlaganaaVwG
namespace Go.Proofs.Ytjedpjfmlaganaa.vw
open Go.RowKit Go.Sort Go.Shelf Go.Lib
set_option linter.unusedVariables false

def eqG (a b : Gn) : Bool := eqK a.k b.k && decide (a.who = b.who)
theorem eqG_iff {a b : Gn} : eqG a b = true ↔ a = b := by
  obtain ⟨a1, a2⟩ := a
  obtain ⟨b1, b2⟩ := b
  unfold eqG
  rw [Bool.and_eq_true, eqK_iff, decide_eq_true_eq]
  simp
/-- Of what stands in order those that are not what stands ahead. -/
def strikeGB : Gn → List Gn → List Gn
  | _, [] => []
  | k, y :: l => if eqG y k then strikeGB y l else y :: strikeGB y l
def strikeG : List Gn → List Gn
  | [] => []
  | y :: l => y :: strikeGB y l
theorem eqG_eq (a b : Gn) : eqG a b = (((a.k.id == b.k.id) && ((a.k.bk == b.k.bk) && (a.k.rw == b.k.rw))) && (a.who == b.who)) := by
  unfold eqG
  rw [eqK_eq]
  rfl
theorem eqg_exec {x y : Gn} {ev : Operand → Value} {o : Oper} {s1 s2 : Operand} {t : TypeId} (ho : o.op = .binOp .eql 52 s1 s2 t) (h1 : ev s1 = .agg #[.int .i64 x.k.id, .int .i64 x.k.bk, .int .i64 x.k.rw, .int .i64 x.who]) (h2 : ev s2 = .agg #[.int .i64 y.k.id, .int .i64 y.k.bk, .int .i64 y.k.rw, .int .i64 y.who]) (W : World) : (execOp ev o).run Try.prog W = .ok (.value (.bool (eqG x y))) W := by
  unfold execOp
  simp only [ho, h1, h2]
  rw [eqG_eq]
  by_cases e0 : x.k.id = y.k.id <;> by_cases e1 : x.k.bk = y.k.bk <;> by_cases e2 : x.k.rw = y.k.rw <;> by_cases e3 : x.who = y.who
  all_goals go_simp
theorem neg_exec {x y : Gn} {ev : Operand → Value} {o : Oper} {s1 s2 : Operand} {t : TypeId} (ho : o.op = .binOp .neq 52 s1 s2 t) (h1 : ev s1 = .agg #[.int .i64 x.k.id, .int .i64 x.k.bk, .int .i64 x.k.rw, .int .i64 x.who]) (h2 : ev s2 = .agg #[.int .i64 y.k.id, .int .i64 y.k.bk, .int .i64 y.k.rw, .int .i64 y.who]) (W : World) : (execOp ev o).run Try.prog W = .ok (.value (.bool (!(eqG x y)))) W := by
  unfold execOp
  simp only [ho, h1, h2]
  rw [eqG_eq]
  by_cases e0 : x.k.id = y.k.id <;> by_cases e1 : x.k.bk = y.k.bk <;> by_cases e2 : x.k.rw = y.k.rw <;> by_cases e3 : x.who = y.who
  all_goals go_simp
theorem sizeG : (Try.prog.info? 52).map (·.size) = some 4 := by kernel_rfl
theorem gn_one (x : Gn) : (#[.int .i64 x.k.id, .int .i64 x.k.bk, .int .i64 x.k.rw, .int .i64 x.who] : Array Value).all (·.oneCell') = true := by simp [Value.oneCell']
theorem gcs_set : ∀ (l : List Gn) (i : Nat) (x : Gn), ((((gcs l).set (i * 4) (.int .i64 x.k.id)).set (i * 4 + 1) (.int .i64 x.k.bk)).set (i * 4 + 2) (.int .i64 x.k.rw)).set (i * 4 + 3) (.int .i64 x.who) = gcs (l.set i x)
  | [], i, d => by simp [gcs]
  | u :: l, 0, d => by simp [gcs]
  | u :: l, i + 1, d => by
    rw [gcs_cons, List.set_cons_succ, gcs_cons, ← gcs_set l i d, show (i + 1) * 4 = i * 4 + 1 + 1 + 1 + 1 by omega]
    simp only [List.set_cons_succ]
theorem zero_gns (k : Nat) : ∀ u ∈ (Builtin.zeroCells #[Value.int .i64 0, .int .i64 0, .int .i64 0, .int .i64 0] k).toList, u.oneCell' = true := by
  intro u hu
  simp [Builtin.zeroCells] at hu
  obtain ⟨i, -, rfl⟩ := hu
  have : i % 4 = 0 ∨ i % 4 = 1 ∨ i % 4 = 2 ∨ i % 4 = 3 := by omega
  rcases this with h | h | h | h <;> simp [h, Value.oneCell']
theorem zero_gn (w : World) : (zeroValue 52).run Try.prog w = .ok (.agg #[.int .i64 0, .int .i64 0, .int .i64 0, .int .i64 0]) w := by kernel_rfl
theorem run_clear_gn (w : World) (ty : TypeId) (g o n c : Nat) (hn : 0 < n) (hth : w.there g o (n * 4)) :
    (Builtin.clear_ #[27] ty #[.slice (some ⟨g, o, none⟩) n c]).run Try.prog w = .ok (.tuple #[]) (w.setCells g o (Builtin.zeroCells #[Value.int .i64 0, .int .i64 0, .int .i64 0, .int .i64 0] n).toList) := by
  have hlen : (Builtin.zeroCells #[Value.int .i64 0, .int .i64 0, .int .i64 0, .int .i64 0] n).toList.length = n * 4 := by simp [Builtin.zeroCells]
  have hst := run_storeCells_cells (P := Try.prog) g o (Builtin.zeroCells #[Value.int .i64 0, .int .i64 0, .int .i64 0, .int .i64 0] n).toList 0 w (by intro j hj; rw [hlen] at hj; simpa using (hth j hj).1) (by intro j hj; rw [hlen] at hj; simpa using (hth j hj).2) (fun v hv => zero_gns n v hv)
  simp only [Nat.add_zero] at hst
  obtain ⟨m, rfl⟩ : ∃ m, n = m + 1 := ⟨n - 1, by omega⟩
  have hz := zero_gn w
  simp [Builtin.clear_, run_underlying Try.underlying27, hz, Value.cells, hst]

/-- The key of the last one. -/
def lastG (k : Gn) : List Gn → Gn
  | [] => k
  | x :: l => lastG x l
theorem strikeGB_snoc (y : Gn) : ∀ (l : List Gn) (k : Gn), strikeGB k (l ++ [y]) = strikeGB k l ++ (if eqG y (lastG k l) then [] else [y])
  | [], k => by
    simp only [List.nil_append, strikeGB, lastG]
    rfl
  | x :: l, k => by
    simp only [List.cons_append, strikeGB, lastG]
    rw [strikeGB_snoc y l x]
    split <;> rfl
theorem lastG_take : ∀ (l : List Gn) (k : Gn) (j : Nat) (x : Gn), l[j]? = some x → lastG k (l.take (j + 1)) = x
  | [], _, _, _, h => by simp at h
  | u :: l, k, 0, x, h => by
    simp at h
    subst h
    rfl
  | u :: l, k, j + 1, x, h => by
    rw [List.take_succ_cons]
    exact lastG_take l u j x (by simpa using h)
theorem strikeG_step {l : List Gn} {j : Nat} {x y : Gn} (hx : l[j]? = some x) (hy : l[j + 1]? = some y) : strikeG (l.take (j + 2)) = strikeG (l.take (j + 1)) ++ (if eqG y x then [] else [y]) := by
  have e : l.take (j + 2) = l.take (j + 1) ++ [y] := by rw [show j + 2 = (j + 1) + 1 from rfl, List.take_add_one, hy]; rfl
  rw [e]
  cases l with
  | nil => simp at hx
  | cons u l =>
    rw [List.take_succ_cons, List.cons_append]
    show u :: strikeGB u (l.take j ++ [y]) = (u :: strikeGB u (l.take j)) ++ _
    rw [strikeGB_snoc]
    have hl : lastG u (l.take j) = x := by
      have := lastG_take (u :: l) u j x hx
      rwa [List.take_succ_cons] at this
    rw [hl]
    rfl
theorem strikeG_all : ∀ {l : List Gn} {n : Nat}, (∀ j x y, j + 1 < n → l[j]? = some x → l[j + 1]? = some y → eqG y x = false) → strikeG (l.take n) = l.take n
  | l, 0, _ => by simp [strikeG]
  | l, 1, _ => by
    cases l with
    | nil => rfl
    | cons u l => simp [strikeG, strikeGB]
  | l, n + 2, h => by
    by_cases hl : n + 1 < l.length
    · have hx : l[n]? = some l[n] := List.getElem?_eq_getElem (by omega)
      have hy : l[n + 1]? = some l[n + 1] := List.getElem?_eq_getElem hl
      rw [strikeG_step hx hy, strikeG_all (n := n + 1) (fun j x y hj => h j x y (by omega)), h n _ _ (by omega) hx hy, show n + 2 = (n + 1) + 1 from rfl, List.take_add_one (i := n + 1), hy]
      rfl
    · rw [List.take_of_length_le (by omega)]
      have := strikeG_all (l := l) (n := n + 1) (fun j x y hj => h j x y (by omega))
      rwa [List.take_of_length_le (by omega)] at this
theorem strikeG_len (l : List Gn) : (strikeG l).length ≤ l.length := by
  have : ∀ (l : List Gn) (k : Gn), (strikeGB k l).length ≤ l.length := by
    intro l
    induction l with
    | nil => intro k; exact Nat.le_refl _
    | cons a l ih =>
      intro k
      simp only [strikeGB]
      split
      · exact Nat.le_trans (ih _) (by simp)
      · simp only [List.length_cons]
        have := ih a
        omega
  cases l with
  | nil => exact Nat.le_refl _
  | cons a l =>
    simp only [strikeG, List.length_cons]
    have := this l a
    omega
set_option maxRecDepth 100000 in
set_option maxHeartbeats 4000000 in
theorem gcompact_any (w : World) (B g n c : Nat) (l : List Gn) (hl : l.length = n) (hn : n ≤ 1000) (hB : B ≤ w.heap.size) (hown : w.ownsRow B 52 4 (.slice (some ⟨g, 0, none⟩) n c) n (gcs l)) :
    Calls Try.prog 34 #[.slice (some ⟨g, 0, none⟩) n c] w fun e w' => e = .returned (.slice (some ⟨g, 0, none⟩) (strikeG l).length c) ∧ w'.ownsRow B 52 4 (.slice (some ⟨g, 0, none⟩) (strikeG l).length c) (strikeG l).length (gcs (strikeG l)) ∧ w.grownBy w' (some g) := by
  have HL := hide hl
  have HOW := hide hown
  obtain ⟨hnc, hcm⟩ : n ≤ c ∧ c ≤ maxLen := by
    obtain ⟨A, c', e, h1, h2⟩ := own_form hown
    simp only [Value.slice.injEq] at e
    obtain ⟨-, -, rfl⟩ := e
    exact ⟨h1, h2⟩
  clear hl hown
  go_enter Try.func34, Try.ntmps34
  by_cases hn2 : n < 2
  · have h2 : (n : Int) < 2 := by omega
    have HE := hide (show strikeG l = l by
      have := strikeG_all (l := l) (n := n) (fun j x y hj => by omega)
      rwa [List.take_of_length_le (by rw [HL.out]; exact Nat.le_refl _)] at this)
    go_wp2_with fail
    go_ret
    exact ⟨by rw [HE.out, HL.out]; rfl, by rw [HE.out, HL.out]; exact HOW.out, World.grownBy.refl _ _⟩
  have h2 : ¬ (n : Int) < 2 := by omega
  go_wp2_with fail
  go_loopw [3] (fun s wr => ∃ k : Nat, s = .int .i64 k ∧ 1 ≤ k ∧ k ≤ n ∧ Hid (∀ j x y, j + 1 < k → l[j]? = some x → l[j + 1]? = some y → eqG y x = false) ∧ Hid (Le w wr)) (fun s _ => n - (intOf s).toNat)
  case atStart => exact ⟨1, rfl, Nat.le_refl _, by omega, hide (fun j x y hj => by omega), hide (Le.refl _)⟩
  case round =>
    clear h2
    obtain ⟨k, rfl, hk1, hkn, HA, HB⟩ := hrel
    by_cases hk : k < n
    · have hkI : (k : Int) < n := by omega
      obtain ⟨kp, hkp⟩ : ∃ kp, kp + 1 = k := ⟨k - 1, by omega⟩
      have wk : IntKind.i64.wrap ((k : Int) - 1) = (kp : Int) := by rw [IntWalk.i64_in _ (by omega)]; omega
      have hkpI : (kp : Int) < n := by omega
      obtain ⟨x, hx⟩ : ∃ x, l[k]? = some x := ⟨_, List.getElem?_eq_getElem (by rw [HL.out]; exact hk)⟩
      obtain ⟨y, hy⟩ : ∃ y, l[kp]? = some y := ⟨_, List.getElem?_eq_getElem (by rw [HL.out]; omega)⟩
      obtain ⟨V, hV⟩ : ∃ V, wr.drew = V := ⟨_, rfl⟩
      have HLV := hide (show Le w V by rw [← hV]; exact HB.out.drew)
      have HOV := hide (own_below HOW.out HLV.out)
      obtain ⟨b', o', eA, hgV, x0, x1, x2, x3⟩ := row_gn (Row.of_own HOV.out) hx
      simp only [Option.some.injEq, Addr.mk.injEq, and_true] at eA
      obtain ⟨rfl, rfl⟩ := eA
      obtain ⟨b', o', eA, -, y0, y1, y2, y3⟩ := row_gn (Row.of_own HOV.out) hy
      simp only [Option.some.injEq, Addr.mk.injEq, and_true] at eA
      obtain ⟨rfl, rfl⟩ := eA
      rw [Nat.zero_add] at x0 x1 x2 x3 y0 y1 y2 y3
      have xc0 : ∀ W, Le V W → W.cell? ⟨g, k * 4, none⟩ = _ := fun W hl => (hl.cell (p := ⟨g, k * 4, none⟩) hgV).trans x0
      have xc1 : ∀ W, Le V W → W.cell? ⟨g, k * 4 + 1, none⟩ = _ := fun W hl => (hl.cell (p := ⟨g, k * 4 + 1, none⟩) hgV).trans x1
      have xc2 : ∀ W, Le V W → W.cell? ⟨g, k * 4 + 2, none⟩ = _ := fun W hl => (hl.cell (p := ⟨g, k * 4 + 2, none⟩) hgV).trans x2
      have xc3 : ∀ W, Le V W → W.cell? ⟨g, k * 4 + 3, none⟩ = _ := fun W hl => (hl.cell (p := ⟨g, k * 4 + 3, none⟩) hgV).trans x3
      have yc0 : ∀ W, Le V W → W.cell? ⟨g, kp * 4, none⟩ = _ := fun W hl => (hl.cell (p := ⟨g, kp * 4, none⟩) hgV).trans y0
      have yc1 : ∀ W, Le V W → W.cell? ⟨g, kp * 4 + 1, none⟩ = _ := fun W hl => (hl.cell (p := ⟨g, kp * 4 + 1, none⟩) hgV).trans y1
      have yc2 : ∀ W, Le V W → W.cell? ⟨g, kp * 4 + 2, none⟩ = _ := fun W hl => (hl.cell (p := ⟨g, kp * 4 + 2, none⟩) hgV).trans y2
      have yc3 : ∀ W, Le V W → W.cell? ⟨g, kp * 4 + 3, none⟩ = _ := fun W hl => (hl.cell (p := ⟨g, kp * 4 + 3, none⟩) hgV).trans y3
      obtain ⟨bl, hbl⟩ : ∃ b, eqG x y = b := ⟨_, rfl⟩
      have HBL := hide hbl
      have HX := hide hx
      have HY := hide hy
      have HKP := hide hkp
      have HV := hide hV
      clear hx hy hV hbl hkp x0 x1 x2 x3 y0 y1 y2 y3
      go_upto_region 6 with fail
      refine region_pi [(0, true), (1, true), (2, true), (3, true), (4, true), (5, true), (6, true), (7, true), (8, true), (9, true)] (by kernel_rfl) (by kernel_rfl) ?_
      simp only [opsPi, List.filterMap_cons, List.filterMap_nil, List.getElem?_toArray, List.getElem?_cons_zero, List.getElem?_cons_succ, Option.map_some]
      rw [HV.out]
      repeat (first | (refine pi_take (v := _) rfl (fun W hW => by go_simp <;> exact rfl) ?_; simp only [Act.put, List.setIfInBounds_toArray, List.set_cons_zero, List.set_cons_succ]) | (refine pi_skip rfl ?_; simp only [Act.put, List.setIfInBounds_toArray, List.set_cons_zero, List.set_cons_succ]))
      refine pi_take (v := .bool _) rfl (fun W' hW' => eqg_exec (x := x) (y := y) rfl rfl rfl W') ?_
      rw [HBL.out]
      simp only [Act.put, List.setIfInBounds_toArray, List.set_cons_zero, List.set_cons_succ]
      repeat (first | (refine pi_take (v := _) rfl (fun W hW => by go_simp <;> exact rfl) ?_; simp only [Act.put, List.setIfInBounds_toArray, List.set_cons_zero, List.set_cons_succ]) | (refine pi_skip rfl ?_; simp only [Act.put, List.setIfInBounds_toArray, List.set_cons_zero, List.set_cons_succ]))
      refine pi_done ?_
      clear xc0 xc1 xc2 xc3 yc0 yc1 yc2 yc3
      clear HV
      obtain ⟨W1, hW1⟩ : ∃ W, W = V := ⟨_, rfl⟩
      rw [← hW1]
      have HL1 := hide (show Le V W1 by rw [hW1]; exact Le.refl _)
      clear hW1
      have HL2 := hide (HLV.out.trans HL1.out)
      cases bl
      · have HA2 := hide (show ∀ j x y, j + 1 < k + 1 → l[j]? = some x → l[j + 1]? = some y → eqG y x = false from fun j u v hj hu hv => by
          by_cases e : j + 1 < k
          · exact HA.out j u v e hu hv
          · have hj2 : j = kp := by have := HKP.out; omega
            subst hj2
            rw [HKP.out, HX.out] at hv
            rw [HY.out] at hu
            injection hv with hv
            injection hu with hu
            rw [← hu, ← hv]
            exact HBL.out)
        go_wp2_with fail
        exact ⟨⟨k + 1, by go_num, by omega, by omega, HA2, HL2⟩, by simp [intOf]; omega⟩
      · have HST0 := hide (show l.take k = strikeG (l.take (k + 1)) by
          have h1 := strikeG_all (l := l) (n := k) HA.out
          have hkp := HKP.out
          subst hkp
          have h2 := strikeG_step HY.out HX.out
          rw [HBL.out] at h2
          rw [show kp + 1 + 1 = kp + 2 from rfl, h2, h1]
          simp)
        have HO2 := hide (own_below HOW.out HL2.out)
        have HG2 := hide (gb_le (r := some g) HL2.out)
        obtain ⟨N2, hN2⟩ : ∃ x, n - k = x := ⟨_, rfl⟩
        obtain ⟨C2, hC2⟩ : ∃ x, c - k = x := ⟨_, rfl⟩
        have hkc : (k : Int) ≤ c := by omega
        have hkc2 : (k : Int) ≤ n := by omega
        have HN2 := hide (show k + N2 = n by omega)
        have HNC := hide (And.intro hN2 hC2)
        have HK1 := hide hk1
        clear HX HY HA HBL wk hN2 hC2
        go_upto_region 8 with fail
        rw [HNC.out.1, HNC.out.2]
        go_wp2_with fail
        go_loopw [3, 5] (fun s t wr => ∃ (i qp : Nat) (m : List Gn), s = .int .i64 i ∧ t = .int .i64 ((qp : Int) + 1) ∧ qp + 1 ≤ N2 ∧ i ≤ k + qp ∧ 1 ≤ i ∧ m.length = n ∧ Hid (m.take i = strikeG (l.take (k + qp + 1))) ∧ Hid (m.drop (k + qp) = l.drop (k + qp)) ∧ Hid (wr.ownsRow B 52 4 (.slice (some ⟨g, 0, none⟩) n c) n (gcs m)) ∧ Hid (w.grownBy wr (some g))) (fun _ t _ => N2 + 2 - (intOf t).toNat)
        case atStart => exact ⟨k, 0, l, rfl, rfl, by have := HN2.out; omega, by omega, hk1, HL.out, HST0, hide rfl, HO2, HG2⟩
        case round =>
          clear HO2 HG2 HST0
          obtain ⟨i, qp, m, rfl, rfl, hq, hi, hi1, hm, HTK, HDR, HO, HG⟩ := hrel
          obtain ⟨q, hqq⟩ : ∃ q, qp + 1 = q := ⟨_, rfl⟩
          have hqI : ((qp : Int) + 1) = (q : Int) := by omega
          rw [hqI]
          have hN2 := HN2.out
          by_cases hqN : q < N2
          · have hqN2 : (q : Int) < N2 := by omega
            have hqpN : (qp : Int) < N2 := by omega
            have wq : IntKind.i64.wrap ((q : Int) - 1) = (qp : Int) := by rw [IntWalk.i64_in _ (by omega)]; omega
            obtain ⟨x, hx⟩ : ∃ x, l[k + q]? = some x := ⟨_, List.getElem?_eq_getElem (by rw [HL.out]; omega)⟩
            obtain ⟨y, hy⟩ : ∃ y, l[k + qp]? = some y := ⟨_, List.getElem?_eq_getElem (by rw [HL.out]; omega)⟩
            have hmx : m[k + q]? = some x := by
              have h := congrArg (fun l => l[1]?) HDR.out
              simp only [List.getElem?_drop] at h
              rw [show k + qp + 1 = k + q by omega] at h
              rw [h, hx]
            have hmy : m[k + qp]? = some y := by
              have h := congrArg (fun l => l[0]?) HDR.out
              simp only [List.getElem?_drop, Nat.add_zero] at h
              rw [h, hy]
            obtain ⟨V, hV⟩ : ∃ V, wr.drew = V := ⟨_, rfl⟩
            have HOV := hide (show V.ownsRow B 52 4 (.slice (some ⟨g, 0, none⟩) n c) n (gcs m) by rw [← hV]; exact own_below HO.out (Below.refl _ _).drew)
            have HGV := hide (show w.grownBy V (some g) by rw [← hV]; exact gb_trans HG.out (gb_le (Le.refl wr).drew))
            obtain ⟨b', o', eA, hgV, x0, x1, x2, x3⟩ := row_gn (Row.of_own HOV.out) hmx
            simp only [Option.some.injEq, Addr.mk.injEq, and_true] at eA
            obtain ⟨rfl, rfl⟩ := eA
            obtain ⟨b', o', eA, -, y0, y1, y2, y3⟩ := row_gn (Row.of_own HOV.out) hmy
            simp only [Option.some.injEq, Addr.mk.injEq, and_true] at eA
            obtain ⟨rfl, rfl⟩ := eA
            rw [Nat.zero_add, Nat.add_mul] at x0 x1 x2 x3 y0 y1 y2 y3
            have xc0 : ∀ W, Le V W → W.cell? ⟨g, k * 4 + q * 4, none⟩ = _ := fun W hl => (hl.cell (p := ⟨g, k * 4 + q * 4, none⟩) hgV).trans x0
            have xc1 : ∀ W, Le V W → W.cell? ⟨g, k * 4 + q * 4 + 1, none⟩ = _ := fun W hl => (hl.cell (p := ⟨g, k * 4 + q * 4 + 1, none⟩) hgV).trans x1
            have xc2 : ∀ W, Le V W → W.cell? ⟨g, k * 4 + q * 4 + 2, none⟩ = _ := fun W hl => (hl.cell (p := ⟨g, k * 4 + q * 4 + 2, none⟩) hgV).trans x2
            have xc3 : ∀ W, Le V W → W.cell? ⟨g, k * 4 + q * 4 + 3, none⟩ = _ := fun W hl => (hl.cell (p := ⟨g, k * 4 + q * 4 + 3, none⟩) hgV).trans x3
            have yc0 : ∀ W, Le V W → W.cell? ⟨g, k * 4 + qp * 4, none⟩ = _ := fun W hl => (hl.cell (p := ⟨g, k * 4 + qp * 4, none⟩) hgV).trans y0
            have yc1 : ∀ W, Le V W → W.cell? ⟨g, k * 4 + qp * 4 + 1, none⟩ = _ := fun W hl => (hl.cell (p := ⟨g, k * 4 + qp * 4 + 1, none⟩) hgV).trans y1
            have yc2 : ∀ W, Le V W → W.cell? ⟨g, k * 4 + qp * 4 + 2, none⟩ = _ := fun W hl => (hl.cell (p := ⟨g, k * 4 + qp * 4 + 2, none⟩) hgV).trans y2
            have yc3 : ∀ W, Le V W → W.cell? ⟨g, k * 4 + qp * 4 + 3, none⟩ = _ := fun W hl => (hl.cell (p := ⟨g, k * 4 + qp * 4 + 3, none⟩) hgV).trans y3
            have HXC := hide (And.intro xc0 (And.intro xc1 (And.intro xc2 xc3)))
            obtain ⟨bl, hbl⟩ : ∃ b, eqG x y = b := ⟨_, rfl⟩
            have hst := strikeG_step hy (by rw [show k + qp + 1 = k + q by omega]; exact hx)
            rw [hbl, show k + qp + 2 = k + q + 1 by omega] at hst
            have HST := hide hst
            have HBL := hide hbl
            have HDR2 := hide (show m.drop (k + q) = l.drop (k + q) by
              have h := congrArg (List.drop 1) HDR.out
              rw [List.drop_drop, List.drop_drop] at h
              rwa [show k + qp + 1 = k + q by omega] at h)
            have HQQ := hide hqq
            have HV := hide hV
            clear hx hy hV hbl hst x0 x1 x2 x3 y0 y1 y2 y3 hmx hmy hqI hqq hN2
            go_upto_region 11 with fail
            refine region_pi [(0, true), (1, true), (2, true), (3, true), (4, true), (5, true), (6, true), (7, true), (8, true), (9, true)] (by kernel_rfl) (by kernel_rfl) ?_
            simp only [opsPi, List.filterMap_cons, List.filterMap_nil, List.getElem?_toArray, List.getElem?_cons_zero, List.getElem?_cons_succ, Option.map_some]
            rw [HV.out]
            repeat (first | (refine pi_take (v := _) rfl (fun W hW => by go_simp <;> exact rfl) ?_; simp only [Act.put, List.setIfInBounds_toArray, List.set_cons_zero, List.set_cons_succ]) | (refine pi_skip rfl ?_; simp only [Act.put, List.setIfInBounds_toArray, List.set_cons_zero, List.set_cons_succ]))
            refine pi_take (v := .bool _) rfl (fun W' hW' => neg_exec (x := x) (y := y) rfl rfl rfl W') ?_
            rw [HBL.out]
            simp only [Act.put, List.setIfInBounds_toArray, List.set_cons_zero, List.set_cons_succ]
            repeat (first | (refine pi_take (v := _) rfl (fun W hW => by go_simp <;> exact rfl) ?_; simp only [Act.put, List.setIfInBounds_toArray, List.set_cons_zero, List.set_cons_succ]) | (refine pi_skip rfl ?_; simp only [Act.put, List.setIfInBounds_toArray, List.set_cons_zero, List.set_cons_succ]))
            refine pi_done ?_
            clear xc0 xc1 xc2 xc3 yc0 yc1 yc2 yc3
            clear HV
            obtain ⟨W1, hW1⟩ : ∃ W, W = V := ⟨_, rfl⟩
            rw [← hW1]
            have HL1 := hide (show Le V W1 by rw [hW1]; exact Le.refl _)
            clear hW1
            have HO1 := hide (own_below HOV.out HL1.out)
            have HG1 := hide (gb_trans HGV.out (gb_le (r := some g) HL1.out))
            have hN2 := HN2.out
            have hqq := HQQ.out
            have hin : (i : Int) < n := by omega
            have hqb : q + 1 ≤ N2 := by omega
            have hqB : q < 1000 := by omega
            have hib : i ≤ k + q := by omega
            have hib2 : i + 1 ≤ k + q := by omega
            have hi4 : i * 4 + 4 ≤ n * 4 := by omega
            have hilt : i < n := by omega
            clear hN2 hqq wq
            cases bl
            · obtain ⟨z0, z1, z2, z3⟩ := HXC.out
              have x0 := z0 W1 HL1.out
              have x1 := z1 W1 HL1.out
              have x2 := z2 W1 HL1.out
              have x3 := z3 W1 HL1.out
              clear z0 z1 z2 z3
              have hth := own_there HO1.out (o := i * 4) (k := 4) hi4
              go_upto_region 13 with (refine wpList_store_mid rfl 52 _ _ rfl g (i * 4) #[.int .i64 x.k.id, .int .i64 x.k.bk, .int .i64 x.k.rw, .int .i64 x.who] (by first | rfl | (show Value.pointer _ = _; simp)) rfl hth sizeG (gn_one x) ?_)
              obtain ⟨Y, hY⟩ : ∃ Y, W1.setCells g (i * 4) #[.int .i64 x.k.id, .int .i64 x.k.bk, .int .i64 x.k.rw, .int .i64 x.who].toList = Y := ⟨_, rfl⟩
              have HOY := hide (show Y.ownsRow B 52 4 (.slice (some ⟨g, 0, none⟩) n c) n (gcs (m.set i x)) by
                rw [← hY, ← gcs_set]
                exact ((((HO1.out.stored (i * 4) (.int .i64 x.k.id)).1.stored (i * 4 + 1) (.int .i64 x.k.bk)).1.stored (i * 4 + 2) (.int .i64 x.k.rw)).1.stored (i * 4 + 3) (.int .i64 x.who)).1)
              have HGY := hide (show w.grownBy Y (some g) by rw [← hY]; exact gb_setCells _ _ _ HG1.out)
              rw [hY]
              clear hY hth x0 x1 x2 x3
              go_wp2_with fail
              refine ⟨⟨i + 1, q, m.set i x, by go_num, by go_num, hqb, hib2, by omega, by simp [hm], hide ?_, hide ?_, HOY, HGY⟩, by simp [intOf]; omega⟩
              · rw [List.take_add_one, List.take_set_of_le (Nat.le_refl _), HTK.out, List.getElem?_set_self (by omega), HST.out, show k + qp + 1 = k + q by have := HQQ.out; omega]
                rfl
              · rw [List.drop_set_of_lt (by omega), HDR2.out]
            · go_wp2_with fail
              refine ⟨⟨i, q, m, rfl, by go_num, hqb, hib, hi1, hm, hide ?_, HDR2, HO1, HG1⟩, by simp [intOf]; omega⟩
              rw [HTK.out, HST.out, show k + qp + 1 = k + q by have := HQQ.out; omega]
              simp
          · obtain rfl : q = N2 := by omega
            have hqle : ¬ (q : Int) < q := by omega
            have htk : m.take i = strikeG l := by
              have h := HTK.out
              rwa [List.take_of_length_le (show l.length ≤ k + qp + 1 by rw [HL.out]; omega)] at h
            have hlen : (strikeG l).length = i := by rw [← htk, List.length_take, hm]; omega
            have hth := own_there HO.out (o := i * 4) (k := (n - i) * 4) (by omega)
            obtain ⟨Y, hY⟩ : ∃ Y, wr.setCells g (i * 4) (Builtin.zeroCells #[Value.int .i64 0, .int .i64 0, .int .i64 0, .int .i64 0] (n - i)).toList = Y := ⟨_, rfl⟩
            have hclr := run_clear_gn wr 0 g (i * 4) (n - i) (c - i) (by omega) hth
            rw [hY] at hclr
            obtain ⟨ys, hys, hyt⟩ := own_setCells (Builtin.zeroCells #[Value.int .i64 0, .int .i64 0, .int .i64 0, .int .i64 0] (n - i)).toList (i * 4) wr (gcs m) HO.out
            rw [hY] at hys
            have hcut := own_cut hys (i := i) (by omega)
            rw [hyt, gcs_take, htk] at hcut
            have HCUT := hide hcut
            have HLEN := hide hlen
            have HGY := hide (show w.grownBy Y (some g) by rw [← hY]; exact gb_setCells _ _ _ HG.out)
            have hnc2 : (i : Int) ≤ c := by omega
            have hiI : (i : Int) ≤ n := by omega
            have hci : ¬ c = i := by omega
            clear hth hY hys hyt hcut htk hlen hN2 hqq hqI
            go_wp2_with fail
            go_ret
            exact ⟨by rw [HLEN.out]; rfl, by rw [HLEN.out]; exact HCUT.out, HGY.out⟩
    · obtain rfl : k = n := by omega
      have HE := hide (show strikeG l = l by
        have := strikeG_all (l := l) (n := k) HA.out
        rwa [List.take_of_length_le (by rw [HL.out]; exact Nat.le_refl _)] at this)
      have HO2 := hide (own_below HOW.out HB.out)
      have HG2 := hide (gb_le (r := some g) HB.out)
      have hle : ¬ (k : Int) < k := by omega
      go_wp2_with fail
      go_ret
      exact ⟨by rw [HE.out, HL.out]; rfl, by rw [HE.out, HL.out]; exact HO2.out, HG2.out⟩
#print axioms gcompact_any
end Go.Proofs.Ytjedpjfmlaganaa.vw
