/-
  Rows with keys, walked: of one key, and struck.
-/
import Derived.Test.YtjedpjfmlaganaaDoorVwY
namespace Go.Proofs.YtjedpjfmlaganaaDoor.vw
open Go.RowKit Go.Sort Go.Shelf Go.Lib
set_option linter.unusedVariables false

theorem own_cut {w : World} {base size n c g i : Nat} {e : TypeId} {xs : List Value} (h : w.ownsRow base e size (.slice (some ⟨g, 0, none⟩) n c) n xs) (hi : i ≤ n) : w.ownsRow base e size (.slice (some ⟨g, 0, none⟩) i c) i (xs.take (i * size)) := by
  obtain ⟨h1, h2⟩ := h
  have hle : i * size ≤ n * size := Nat.mul_le_mul_right _ hi
  refine ⟨by rw [List.length_take, h1]; omega, ?_⟩
  rcases h2 with ⟨hv, -⟩ | ⟨g', cap, cur, hv, a1, a2, a3, a4, a5, a6⟩
  · cases hv
  · simp only [Value.slice.injEq, Option.some.injEq, Addr.mk.injEq, and_true, true_and] at hv
    obtain ⟨rfl, rfl⟩ := hv
    refine .inr ⟨g, c, cur, rfl, a1, a2, by omega, a4, a5, ?_⟩
    rw [← a6, List.take_take, Nat.min_eq_left hle]
theorem own_setCells {base size n c g : Nat} {e : TypeId} : ∀ (zs : List Value) (o : Nat) (w : World) (xs : List Value), w.ownsRow base e size (.slice (some ⟨g, 0, none⟩) n c) n xs →
    ∃ ys, (w.setCells g o zs).ownsRow base e size (.slice (some ⟨g, 0, none⟩) n c) n ys ∧ ys.take o = xs.take o
  | [], o, w, xs, h => ⟨xs, h, rfl⟩
  | z :: zs, o, w, xs, h => by
    obtain ⟨ys, h1, h2⟩ := own_setCells zs (o + 1) (w.setCell ⟨g, o, none⟩ z) (xs.set o z) (h.stored o z).1
    refine ⟨ys, h1, ?_⟩
    have := congrArg (List.take o) h2
    rw [List.take_take, List.take_take, Nat.min_eq_left (by omega)] at this
    rw [this, List.take_set_of_le (Nat.le_refl _)]
theorem below_setCells' {B b : Nat} {a : World} (hb : B ≤ b) : ∀ (vs : List Value) (o : Nat) (w : World), Below B a w → Below B a (w.setCells b o vs)
  | [], _, _, h => h
  | v :: vs, o, w, h => below_setCells' hb vs (o + 1) _ (h.setCell hb v)
theorem own_there {w : World} {base size n c g : Nat} {e : TypeId} {xs : List Value} (h : w.ownsRow base e size (.slice (some ⟨g, 0, none⟩) n c) n xs) {o k : Nat} (hk : o + k ≤ n * size) : w.there g o k := by
  rcases h.2 with ⟨hv, -⟩ | ⟨g', cap, cur, hv, a1, a2, a3, a4, a5, a6⟩
  · cases hv
  · simp only [Value.slice.injEq, Option.some.injEq, Addr.mk.injEq, and_true, true_and] at hv
    obtain ⟨rfl, rfl⟩ := hv
    have hle : n * size ≤ c * size := Nat.mul_le_mul_right _ a3
    intro j hj
    have hb : Box w g cur e := a2
    refine ⟨?_, hb.frozen _⟩
    have hlt : o + j < cur.size := by omega
    rw [hb.cell (o + j) cur[o + j] (by simp [hlt])]
    rfl
theorem gb_le {w w1 : World} {r : Option Nat} (h : Le w w1) : w.grownBy w1 r := ⟨h.os, h.tape, h.output, h.size, fun k hk _ => h.block k hk⟩
theorem gb_trans {a b c : World} {r : Option Nat} (h : a.grownBy b r) (k : b.grownBy c r) : a.grownBy c r :=
  ⟨k.os.trans h.os, k.tape.trans h.tape, k.output.trans h.output, Nat.le_trans h.size k.size, fun j hj hr => (k.block j (Nat.lt_of_lt_of_le hj h.size) hr).trans (h.block j hj hr)⟩
theorem gb_setCell {a b : World} {g o : Nat} {v : Value} (h : a.grownBy b (some g)) : a.grownBy (b.setCell ⟨g, o, none⟩ v) (some g) :=
  ⟨h.os, h.tape, h.output, by simpa [World.setCell] using h.size, fun k hk hr => (Below.heap_setCell _ _ _ _ (fun e => hr (by rw [e]))).trans (h.block k hk hr)⟩
theorem gb_setCells {a : World} {g : Nat} : ∀ (vs : List Value) (o : Nat) (b : World), a.grownBy b (some g) → a.grownBy (b.setCells g o vs) (some g)
  | [], _, _, h => h
  | v :: vs, o, b, h => gb_setCells vs (o + 1) _ (gb_setCell h)
theorem zero_kds (k : Nat) : ∀ u ∈ (Builtin.zeroCells #[Value.int .i64 0, .int .i64 0, .int .i64 0, .slice none 0 0] k).toList, u.oneCell' = true := by
  intro u hu
  simp [Builtin.zeroCells] at hu
  obtain ⟨i, -, rfl⟩ := hu
  have : i % 4 = 0 ∨ i % 4 = 1 ∨ i % 4 = 2 ∨ i % 4 = 3 := by omega
  rcases this with h | h | h | h <;> simp [h, Value.oneCell']
theorem zero_kd (w : World) : (zeroValue 37).run Tryd.prog w = .ok (.agg #[.int .i64 0, .int .i64 0, .int .i64 0, .slice none 0 0]) w := by kernel_rfl
theorem run_clear_kd (w : World) (ty : TypeId) (g o n c : Nat) (hn : 0 < n) (hth : w.there g o (n * 4)) :
    (Builtin.clear_ #[23] ty #[.slice (some ⟨g, o, none⟩) n c]).run Tryd.prog w = .ok (.tuple #[]) (w.setCells g o (Builtin.zeroCells #[Value.int .i64 0, .int .i64 0, .int .i64 0, .slice none 0 0] n).toList) := by
  have hlen : (Builtin.zeroCells #[Value.int .i64 0, .int .i64 0, .int .i64 0, .slice none 0 0] n).toList.length = n * 4 := by simp [Builtin.zeroCells]
  have hst := run_storeCells_cells (P := Tryd.prog) g o (Builtin.zeroCells #[Value.int .i64 0, .int .i64 0, .int .i64 0, .slice none 0 0] n).toList 0 w (by intro j hj; rw [hlen] at hj; simpa using (hth j hj).1) (by intro j hj; rw [hlen] at hj; simpa using (hth j hj).2) (fun v hv => zero_kds n v hv)
  simp only [Nat.add_zero] at hst
  obtain ⟨m, rfl⟩ : ∃ m, n = m + 1 := ⟨n - 1, by omega⟩
  have hz := zero_kd w
  simp [Builtin.clear_, run_underlying Tryd.underlying23, hz, Value.cells, hst]

/-- The key of the last one. -/
def lastK (k : Ke) : List Kd → Ke
  | [] => k
  | x :: l => lastK x.k l
theorem strikeB_snoc (y : Kd) : ∀ (l : List Kd) (k : Ke), strikeB Kd.k k (l ++ [y]) = strikeB Kd.k k l ++ (if eqK y.k (lastK k l) then [] else [y])
  | [], k => by
    simp only [List.nil_append, strikeB, lastK]
    rfl
  | x :: l, k => by
    simp only [List.cons_append, strikeB, lastK]
    rw [strikeB_snoc y l x.k]
    split <;> rfl
theorem lastK_take : ∀ (l : List Kd) (k : Ke) (j : Nat) (x : Kd), l[j]? = some x → lastK k (l.take (j + 1)) = x.k
  | [], _, _, _, h => by simp at h
  | u :: l, k, 0, x, h => by
    simp at h
    subst h
    rfl
  | u :: l, k, j + 1, x, h => by
    rw [List.take_succ_cons]
    exact lastK_take l u.k j x (by simpa using h)
theorem strike_step {l : List Kd} {j : Nat} {x y : Kd} (hx : l[j]? = some x) (hy : l[j + 1]? = some y) : strike Kd.k (l.take (j + 2)) = strike Kd.k (l.take (j + 1)) ++ (if eqK y.k x.k then [] else [y]) := by
  have e : l.take (j + 2) = l.take (j + 1) ++ [y] := by rw [show j + 2 = (j + 1) + 1 from rfl, List.take_add_one, hy]; rfl
  rw [e]
  cases l with
  | nil => simp at hx
  | cons u l =>
    rw [List.take_succ_cons, List.cons_append]
    show u :: strikeB Kd.k u.k (l.take j ++ [y]) = (u :: strikeB Kd.k u.k (l.take j)) ++ _
    rw [strikeB_snoc]
    have hl : lastK u.k (l.take j) = x.k := by
      have := lastK_take (u :: l) u.k j x hx
      rwa [List.take_succ_cons] at this
    rw [hl]
    rfl
theorem strike_all : ∀ {l : List Kd} {n : Nat}, (∀ j x y, j + 1 < n → l[j]? = some x → l[j + 1]? = some y → eqK y.k x.k = false) → strike Kd.k (l.take n) = l.take n
  | l, 0, _ => by simp [strike]
  | l, 1, _ => by
    cases l with
    | nil => rfl
    | cons u l => simp [strike, strikeB]
  | l, n + 2, h => by
    by_cases hl : n + 1 < l.length
    · have hx : l[n]? = some l[n] := List.getElem?_eq_getElem (by omega)
      have hy : l[n + 1]? = some l[n + 1] := List.getElem?_eq_getElem hl
      rw [strike_step hx hy, strike_all (n := n + 1) (fun j x y hj => h j x y (by omega)), h n _ _ (by omega) hx hy, show n + 2 = (n + 1) + 1 from rfl, List.take_add_one (i := n + 1), hy]
      rfl
    · rw [List.take_of_length_le (by omega)]
      have := strike_all (l := l) (n := n + 1) (fun j x y hj => h j x y (by omega))
      rwa [List.take_of_length_le (by omega)] at this
theorem strike_len (l : List Kd) : (strike Kd.k l).length ≤ l.length := by
  have : ∀ (l : List Kd) (k : Ke), (strikeB Kd.k k l).length ≤ l.length := by
    intro l
    induction l with
    | nil => intro k; exact Nat.le_refl _
    | cons a l ih =>
      intro k
      simp only [strikeB]
      split
      · exact Nat.le_trans (ih _) (by simp)
      · simp only [List.length_cons]
        have := ih a.k
        omega
  cases l with
  | nil => exact Nat.le_refl _
  | cons a l =>
    simp only [strike, List.length_cons]
    have := this l a.k
    omega
theorem enterMerge1 : ∀ args W, (callFunc 41 args).run Tryd.prog W = .ok (.enter 41 args) W :=
  fun args W => run_enter Tryd.func41 (by decide) rfl args W
theorem eqK_eq (a b : Ke) : eqK a b = ((a.id == b.id) && ((a.bk == b.bk) && (a.rw == b.rw))) := by
  rw [Bool.eq_iff_iff]
  unfold eqK
  simp
theorem eqk_run (x y : Ke) (W : World) : (Op.equalIn 10000 33 (.agg #[.int .i64 x.id, .int .i64 x.bk, .int .i64 x.rw]) (.agg #[.int .i64 y.id, .int .i64 y.bk, .int .i64 y.rw])).run Tryd.prog W = .ok (eqK x y) W := by
  obtain ⟨x0, x1, x2⟩ := x
  obtain ⟨y0, y1, y2⟩ := y
  rw [eqK_eq]
  by_cases h0 : x0 = y0 <;> by_cases h1 : x1 = y1 <;> by_cases h2 : x2 = y2
  all_goals go_simp
set_option maxRecDepth 100000 in
theorem merge1_any (w : World) (x y : Ke) (A A' : Option Addr) (n n' c c' : Nat) : Calls Tryd.prog 41 #[.agg #[.int .i64 x.id, .int .i64 x.bk, .int .i64 x.rw, .slice A n c], .agg #[.int .i64 y.id, .int .i64 y.bk, .int .i64 y.rw, .slice A' n' c']] w fun e w' => e = .returned (.bool (eqK x y)) ∧ Le w w' := by
  obtain ⟨X, hX, b1, b2, hb, -⟩ := two_boxes w (kdcell x A n c) (kdcell y A' n' c') 37
  unfold kdcell at hX
  have HX := hide hX
  have HB := hide (show Le w X from hb)
  have c0 := b1.cell 0 (.int .i64 x.id) rfl
  have c1 := b1.cell 1 (.int .i64 x.bk) rfl
  have c2 := b1.cell 2 (.int .i64 x.rw) rfl
  have d0 := b2.cell 0 (.int .i64 y.id) rfl
  have d1 := b2.cell 1 (.int .i64 y.bk) rfl
  have d2 := b2.cell 2 (.int .i64 y.rw) rfl
  obtain ⟨R, hR⟩ : ∃ R, eqK x y = R := ⟨_, rfl⟩
  rw [hR]
  have HR := hide (show ((x.id == y.id) && ((x.bk == y.bk) && (x.rw == y.rw))) = R by rw [← hR, eqK_eq])
  clear hX b1 b2 hb hR
  go_enter Tryd.func41, Tryd.ntmps41
  go_upto_region 1 with fail
  rw [HX.out]
  go_wp2_with fail
  all_goals
    go_ret
    refine ⟨ret_bool ?_, HB.out⟩
    rw [← HR.out]
    simp_all
#print axioms merge1_any

set_option maxRecDepth 100000 in
set_option maxHeartbeats 4000000 in
theorem compact_any (w : World) (B g n c : Nat) (l : List Kd) (hl : l.length = n) (hn : n ≤ 1000) (hB : B ≤ w.heap.size) (hown : w.ownsRow B 37 4 (.slice (some ⟨g, 0, none⟩) n c) n (kcs l)) :
    Calls Tryd.prog 40 #[.slice (some ⟨g, 0, none⟩) n c, .func (.func 41) #[] #[]] w fun e w' => e = .returned (.slice (some ⟨g, 0, none⟩) (strike Kd.k l).length c) ∧ w'.ownsRow B 37 4 (.slice (some ⟨g, 0, none⟩) (strike Kd.k l).length c) (strike Kd.k l).length (kcs (strike Kd.k l)) ∧ w.grownBy w' (some g) := by
  have HL := hide hl
  have HOW := hide hown
  have he := enterMerge1
  obtain ⟨hnc, hcm⟩ : n ≤ c ∧ c ≤ maxLen := by
    obtain ⟨A, c', e, h1, h2⟩ := own_form hown
    simp only [Value.slice.injEq] at e
    obtain ⟨-, -, rfl⟩ := e
    exact ⟨h1, h2⟩
  clear hl hown
  go_enter Tryd.func40, Tryd.ntmps40
  by_cases hn2 : n < 2
  · have h2 : (n : Int) < 2 := by omega
    have HE := hide (show strike Kd.k l = l by
      have := strike_all (l := l) (n := n) (fun j x y hj => by omega)
      rwa [List.take_of_length_le (by rw [HL.out]; exact Nat.le_refl _)] at this)
    go_wp2_with fail
    go_ret
    exact ⟨by rw [HE.out, HL.out]; rfl, by rw [HE.out, HL.out]; exact HOW.out, World.grownBy.refl _ _⟩
  have h2 : ¬ (n : Int) < 2 := by omega
  go_wp2_with fail
  go_loopw [5] (fun s wr => ∃ k : Nat, s = .int .i64 k ∧ 1 ≤ k ∧ k ≤ n ∧ Hid (∀ j x y, j + 1 < k → l[j]? = some x → l[j + 1]? = some y → eqK y.k x.k = false) ∧ Hid (Le w wr)) (fun s _ => n - (intOf s).toNat)
  case atStart => exact ⟨1, rfl, Nat.le_refl _, by omega, hide (fun j x y hj => by omega), hide (Le.refl _)⟩
  case round =>
    clear h2
    obtain ⟨k, rfl, hk1, hkn, HA, HB⟩ := hrel
    by_cases hk : k < n
    · have hkI : (k : Int) < n := by omega
      obtain ⟨kp, hkp⟩ : ∃ kp, kp + 1 = k := ⟨k - 1, by omega⟩
      have wk : IntKind.i64.wrap ((k : Int) - 1) = (kp : Int) := by rw [IntWalk.i64_in _ (by omega)]; omega
      have hkpI : (kp : Int) < n := by omega
      obtain ⟨x, hx⟩ : ∃ x, l[k]? = some x := ⟨_, List.getElem?_eq_getElem (by rw [HL.out]; exact hk)⟩
      obtain ⟨y, hy⟩ : ∃ y, l[kp]? = some y := ⟨_, List.getElem?_eq_getElem (by rw [HL.out]; omega)⟩
      obtain ⟨V, hV⟩ : ∃ V, wr.drew = V := ⟨_, rfl⟩
      have HLV := hide (show Le w V by rw [← hV]; exact HB.out.drew)
      have HOV := hide (own_below HOW.out HLV.out)
      obtain ⟨b', o', eA, hgV, x0, x1, x2, x3⟩ := row_kd (Row.of_own HOV.out) hx
      simp only [Option.some.injEq, Addr.mk.injEq, and_true] at eA
      obtain ⟨rfl, rfl⟩ := eA
      obtain ⟨b', o', eA, -, y0, y1, y2, y3⟩ := row_kd (Row.of_own HOV.out) hy
      simp only [Option.some.injEq, Addr.mk.injEq, and_true] at eA
      obtain ⟨rfl, rfl⟩ := eA
      rw [Nat.zero_add] at x0 x1 x2 x3 y0 y1 y2 y3
      have xc0 : ∀ W, Le V W → W.cell? ⟨g, k * 4, none⟩ = _ := fun W hl => (hl.cell (p := ⟨g, k * 4, none⟩) hgV).trans x0
      have xc1 : ∀ W, Le V W → W.cell? ⟨g, k * 4 + 1, none⟩ = _ := fun W hl => (hl.cell (p := ⟨g, k * 4 + 1, none⟩) hgV).trans x1
      have xc2 : ∀ W, Le V W → W.cell? ⟨g, k * 4 + 2, none⟩ = _ := fun W hl => (hl.cell (p := ⟨g, k * 4 + 2, none⟩) hgV).trans x2
      have xc3 : ∀ W, Le V W → W.cell? ⟨g, k * 4 + 3, none⟩ = _ := fun W hl => (hl.cell (p := ⟨g, k * 4 + 3, none⟩) hgV).trans x3
      have yc0 : ∀ W, Le V W → W.cell? ⟨g, kp * 4, none⟩ = _ := fun W hl => (hl.cell (p := ⟨g, kp * 4, none⟩) hgV).trans y0
      have yc1 : ∀ W, Le V W → W.cell? ⟨g, kp * 4 + 1, none⟩ = _ := fun W hl => (hl.cell (p := ⟨g, kp * 4 + 1, none⟩) hgV).trans y1
      have yc2 : ∀ W, Le V W → W.cell? ⟨g, kp * 4 + 2, none⟩ = _ := fun W hl => (hl.cell (p := ⟨g, kp * 4 + 2, none⟩) hgV).trans y2
      have yc3 : ∀ W, Le V W → W.cell? ⟨g, kp * 4 + 3, none⟩ = _ := fun W hl => (hl.cell (p := ⟨g, kp * 4 + 3, none⟩) hgV).trans y3
      have HCM := hide (merge1_any V x.k y.k x.A y.A x.n y.n x.c y.c)
      obtain ⟨bl, hbl⟩ : ∃ b, eqK x.k y.k = b := ⟨_, rfl⟩
      rw [hbl] at HCM
      have HBL := hide hbl
      have HX := hide hx
      have HY := hide hy
      have HKP := hide hkp
      have HV := hide hV
      clear hx hy hV hbl hkp x0 x1 x2 x3 y0 y1 y2 y3
      go_upto_region 6 with fail
      refine region_pi [(0, true), (1, true), (2, true), (3, true), (4, true), (5, true), (6, true), (7, true), (8, true), (9, true), (10, false)] (by kernel_rfl) (by kernel_rfl) ?_
      simp only [opsPi, List.filterMap_cons, List.filterMap_nil, List.getElem?_toArray, List.getElem?_cons_zero, List.getElem?_cons_succ, Option.map_some]
      rw [HV.out]
      repeat (first | (refine pi_take (v := _) rfl (fun W hW => by go_simp <;> exact rfl) ?_; simp only [Act.put, List.setIfInBounds_toArray, List.set_cons_zero, List.set_cons_succ]) | (refine pi_skip rfl ?_; simp only [Act.put, List.setIfInBounds_toArray, List.set_cons_zero, List.set_cons_succ]))
      clear xc0 xc1 xc2 xc3 yc0 yc1 yc2 yc3
      refine pi_run ?_
      go_wp2_with fail
      refine HCM.out.mono ?_
      rintro e W1 ⟨rfl, hl⟩
      have HL1 := hide hl
      clear hl
      go_wp2_with fail
      refine ⟨HL1.out, ?_⟩
      repeat (first | (refine pi_take (v := _) rfl (fun W hW => by go_simp <;> exact rfl) ?_; simp only [Act.put, List.setIfInBounds_toArray, List.set_cons_zero, List.set_cons_succ]) | (refine pi_skip rfl ?_; simp only [Act.put, List.setIfInBounds_toArray, List.set_cons_zero, List.set_cons_succ]))
      refine pi_done ?_
      clear HCM HV
      have HL2 := hide (HLV.out.trans HL1.out)
      cases bl
      · have HA2 := hide (show ∀ j x y, j + 1 < k + 1 → l[j]? = some x → l[j + 1]? = some y → eqK y.k x.k = false from fun j u v hj hu hv => by
          by_cases e : j + 1 < k
          · exact HA.out j u v e hu hv
          · have hj2 : j = kp := by have := HKP.out; omega
            subst hj2
            rw [HKP.out, HX.out] at hv
            rw [HY.out] at hu
            injection hv with hv
            injection hu with hu
            rw [← hu, ← hv]
            exact HBL.out)
        go_wp2_with fail
        exact ⟨⟨k + 1, by go_num, by omega, by omega, HA2, HL2⟩, by simp [intOf]; omega⟩
      · have HST0 := hide (show l.take k = strike Kd.k (l.take (k + 1)) by
          have h1 := strike_all (l := l) (n := k) HA.out
          have hkp := HKP.out
          subst hkp
          have h2 := strike_step HY.out HX.out
          rw [HBL.out] at h2
          rw [show kp + 1 + 1 = kp + 2 from rfl, h2, h1]
          simp)
        have HO2 := hide (own_below HOW.out HL2.out)
        have HG2 := hide (gb_le (r := some g) HL2.out)
        obtain ⟨N2, hN2⟩ : ∃ x, n - k = x := ⟨_, rfl⟩
        obtain ⟨C2, hC2⟩ : ∃ x, c - k = x := ⟨_, rfl⟩
        have hkc : (k : Int) ≤ c := by omega
        have hkc2 : (k : Int) ≤ n := by omega
        have HN2 := hide (show k + N2 = n by omega)
        have HNC := hide (And.intro hN2 hC2)
        have HK1 := hide hk1
        clear HX HY HA HBL wk hN2 hC2
        go_upto_region 8 with fail
        rw [HNC.out.1, HNC.out.2]
        go_wp2_with fail
        go_loopw [5, 7] (fun s t wr => ∃ (i qp : Nat) (m : List Kd), s = .int .i64 i ∧ t = .int .i64 ((qp : Int) + 1) ∧ qp + 1 ≤ N2 ∧ i ≤ k + qp ∧ 1 ≤ i ∧ m.length = n ∧ Hid (m.take i = strike Kd.k (l.take (k + qp + 1))) ∧ Hid (m.drop (k + qp) = l.drop (k + qp)) ∧ Hid (wr.ownsRow B 37 4 (.slice (some ⟨g, 0, none⟩) n c) n (kcs m)) ∧ Hid (w.grownBy wr (some g))) (fun _ t _ => N2 + 2 - (intOf t).toNat)
        case atStart => exact ⟨k, 0, l, rfl, rfl, by have := HN2.out; omega, by omega, hk1, HL.out, HST0, hide rfl, HO2, HG2⟩
        case round =>
          clear HO2 HG2 HST0
          obtain ⟨i, qp, m, rfl, rfl, hq, hi, hi1, hm, HTK, HDR, HO, HG⟩ := hrel
          obtain ⟨q, hqq⟩ : ∃ q, qp + 1 = q := ⟨_, rfl⟩
          have hqI : ((qp : Int) + 1) = (q : Int) := by omega
          rw [hqI]
          have hN2 := HN2.out
          by_cases hqN : q < N2
          · have hqN2 : (q : Int) < N2 := by omega
            have hqpN : (qp : Int) < N2 := by omega
            have wq : IntKind.i64.wrap ((q : Int) - 1) = (qp : Int) := by rw [IntWalk.i64_in _ (by omega)]; omega
            obtain ⟨x, hx⟩ : ∃ x, l[k + q]? = some x := ⟨_, List.getElem?_eq_getElem (by rw [HL.out]; omega)⟩
            obtain ⟨y, hy⟩ : ∃ y, l[k + qp]? = some y := ⟨_, List.getElem?_eq_getElem (by rw [HL.out]; omega)⟩
            have hmx : m[k + q]? = some x := by
              have h := congrArg (fun l => l[1]?) HDR.out
              simp only [List.getElem?_drop] at h
              rw [show k + qp + 1 = k + q by omega] at h
              rw [h, hx]
            have hmy : m[k + qp]? = some y := by
              have h := congrArg (fun l => l[0]?) HDR.out
              simp only [List.getElem?_drop, Nat.add_zero] at h
              rw [h, hy]
            obtain ⟨V, hV⟩ : ∃ V, wr.drew = V := ⟨_, rfl⟩
            have HOV := hide (show V.ownsRow B 37 4 (.slice (some ⟨g, 0, none⟩) n c) n (kcs m) by rw [← hV]; exact own_below HO.out (Below.refl _ _).drew)
            have HGV := hide (show w.grownBy V (some g) by rw [← hV]; exact gb_trans HG.out (gb_le (Le.refl wr).drew))
            obtain ⟨b', o', eA, hgV, x0, x1, x2, x3⟩ := row_kd (Row.of_own HOV.out) hmx
            simp only [Option.some.injEq, Addr.mk.injEq, and_true] at eA
            obtain ⟨rfl, rfl⟩ := eA
            obtain ⟨b', o', eA, -, y0, y1, y2, y3⟩ := row_kd (Row.of_own HOV.out) hmy
            simp only [Option.some.injEq, Addr.mk.injEq, and_true] at eA
            obtain ⟨rfl, rfl⟩ := eA
            rw [Nat.zero_add, Nat.add_mul] at x0 x1 x2 x3 y0 y1 y2 y3
            have xc0 : ∀ W, Le V W → W.cell? ⟨g, k * 4 + q * 4, none⟩ = _ := fun W hl => (hl.cell (p := ⟨g, k * 4 + q * 4, none⟩) hgV).trans x0
            have xc1 : ∀ W, Le V W → W.cell? ⟨g, k * 4 + q * 4 + 1, none⟩ = _ := fun W hl => (hl.cell (p := ⟨g, k * 4 + q * 4 + 1, none⟩) hgV).trans x1
            have xc2 : ∀ W, Le V W → W.cell? ⟨g, k * 4 + q * 4 + 2, none⟩ = _ := fun W hl => (hl.cell (p := ⟨g, k * 4 + q * 4 + 2, none⟩) hgV).trans x2
            have xc3 : ∀ W, Le V W → W.cell? ⟨g, k * 4 + q * 4 + 3, none⟩ = _ := fun W hl => (hl.cell (p := ⟨g, k * 4 + q * 4 + 3, none⟩) hgV).trans x3
            have yc0 : ∀ W, Le V W → W.cell? ⟨g, k * 4 + qp * 4, none⟩ = _ := fun W hl => (hl.cell (p := ⟨g, k * 4 + qp * 4, none⟩) hgV).trans y0
            have yc1 : ∀ W, Le V W → W.cell? ⟨g, k * 4 + qp * 4 + 1, none⟩ = _ := fun W hl => (hl.cell (p := ⟨g, k * 4 + qp * 4 + 1, none⟩) hgV).trans y1
            have yc2 : ∀ W, Le V W → W.cell? ⟨g, k * 4 + qp * 4 + 2, none⟩ = _ := fun W hl => (hl.cell (p := ⟨g, k * 4 + qp * 4 + 2, none⟩) hgV).trans y2
            have yc3 : ∀ W, Le V W → W.cell? ⟨g, k * 4 + qp * 4 + 3, none⟩ = _ := fun W hl => (hl.cell (p := ⟨g, k * 4 + qp * 4 + 3, none⟩) hgV).trans y3
            have HXC := hide (And.intro xc0 (And.intro xc1 (And.intro xc2 xc3)))
            have HCM := hide (merge1_any V x.k y.k x.A y.A x.n y.n x.c y.c)
            obtain ⟨bl, hbl⟩ : ∃ b, eqK x.k y.k = b := ⟨_, rfl⟩
            rw [hbl] at HCM
            have hst := strike_step hy (by rw [show k + qp + 1 = k + q by omega]; exact hx)
            rw [hbl, show k + qp + 2 = k + q + 1 by omega] at hst
            have HST := hide hst
            have HDR2 := hide (show m.drop (k + q) = l.drop (k + q) by
              have h := congrArg (List.drop 1) HDR.out
              rw [List.drop_drop, List.drop_drop] at h
              rwa [show k + qp + 1 = k + q by omega] at h)
            have HQQ := hide hqq
            have HV := hide hV
            clear hx hy hV hbl hst x0 x1 x2 x3 y0 y1 y2 y3 hmx hmy hqI hqq hN2
            go_upto_region 11 with fail
            refine region_pi [(0, true), (1, true), (2, true), (3, true), (4, true), (5, true), (6, true), (7, true), (8, true), (9, true), (10, false), (11, true)] (by kernel_rfl) (by kernel_rfl) ?_
            simp only [opsPi, List.filterMap_cons, List.filterMap_nil, List.getElem?_toArray, List.getElem?_cons_zero, List.getElem?_cons_succ, Option.map_some]
            rw [HV.out]
            repeat (first | (refine pi_take (v := _) rfl (fun W hW => by go_simp <;> exact rfl) ?_; simp only [Act.put, List.setIfInBounds_toArray, List.set_cons_zero, List.set_cons_succ]) | (refine pi_skip rfl ?_; simp only [Act.put, List.setIfInBounds_toArray, List.set_cons_zero, List.set_cons_succ]))
            clear xc0 xc1 xc2 xc3 yc0 yc1 yc2 yc3
            refine pi_run ?_
            go_wp2_with fail
            refine HCM.out.mono ?_
            rintro e W1 ⟨rfl, hl⟩
            have HL1 := hide hl
            clear hl
            go_wp2_with fail
            refine ⟨HL1.out, ?_⟩
            repeat (first | (refine pi_take (v := _) rfl (fun W hW => by go_simp <;> exact rfl) ?_; simp only [Act.put, List.setIfInBounds_toArray, List.set_cons_zero, List.set_cons_succ]) | (refine pi_skip rfl ?_; simp only [Act.put, List.setIfInBounds_toArray, List.set_cons_zero, List.set_cons_succ]))
            refine pi_done ?_
            clear HCM HV
            have HO1 := hide (own_below HOV.out HL1.out)
            have HG1 := hide (gb_trans HGV.out (gb_le (r := some g) HL1.out))
            have hN2 := HN2.out
            have hqq := HQQ.out
            have hin : (i : Int) < n := by omega
            have hqb : q + 1 ≤ N2 := by omega
            have hqB : q < 1000 := by omega
            have hib : i ≤ k + q := by omega
            have hib2 : i + 1 ≤ k + q := by omega
            have hi4 : i * 4 + 4 ≤ n * 4 := by omega
            have hilt : i < n := by omega
            clear hN2 hqq wq
            cases bl
            · obtain ⟨z0, z1, z2, z3⟩ := HXC.out
              have x0 := z0 W1 HL1.out
              have x1 := z1 W1 HL1.out
              have x2 := z2 W1 HL1.out
              have x3 := z3 W1 HL1.out
              clear z0 z1 z2 z3
              have hth := own_there HO1.out (o := i * 4) (k := 4) hi4
              go_upto_region 13 with (refine wpList_store_mid rfl 37 _ _ rfl g (i * 4) #[.int .i64 x.k.id, .int .i64 x.k.bk, .int .i64 x.k.rw, .slice x.A x.n x.c] (by first | rfl | (show Value.pointer _ = _; simp)) rfl hth sizeK (kd_one (x, 0)) ?_)
              obtain ⟨Y, hY⟩ : ∃ Y, W1.setCells g (i * 4) #[.int .i64 x.k.id, .int .i64 x.k.bk, .int .i64 x.k.rw, .slice x.A x.n x.c].toList = Y := ⟨_, rfl⟩
              have HOY := hide (show Y.ownsRow B 37 4 (.slice (some ⟨g, 0, none⟩) n c) n (kcs (m.set i x)) by
                rw [← hY, ← kcs_set]
                exact ((((HO1.out.stored (i * 4) (.int .i64 x.k.id)).1.stored (i * 4 + 1) (.int .i64 x.k.bk)).1.stored (i * 4 + 2) (.int .i64 x.k.rw)).1.stored (i * 4 + 3) (.slice x.A x.n x.c)).1)
              have HGY := hide (show w.grownBy Y (some g) by rw [← hY]; exact gb_setCells _ _ _ HG1.out)
              rw [hY]
              clear hY hth x0 x1 x2 x3
              go_wp2_with fail
              refine ⟨⟨i + 1, q, m.set i x, by go_num, by go_num, hqb, hib2, by omega, by simp [hm], hide ?_, hide ?_, HOY, HGY⟩, by simp [intOf]; omega⟩
              · rw [List.take_add_one, List.take_set_of_le (Nat.le_refl _), HTK.out, List.getElem?_set_self (by omega), HST.out, show k + qp + 1 = k + q by have := HQQ.out; omega]
                rfl
              · rw [List.drop_set_of_lt (by omega), HDR2.out]
            · go_wp2_with fail
              refine ⟨⟨i, q, m, rfl, by go_num, hqb, hib, hi1, hm, hide ?_, HDR2, HO1, HG1⟩, by simp [intOf]; omega⟩
              rw [HTK.out, HST.out, show k + qp + 1 = k + q by have := HQQ.out; omega]
              simp
          · obtain rfl : q = N2 := by omega
            have hqle : ¬ (q : Int) < q := by omega
            have htk : m.take i = strike Kd.k l := by
              have h := HTK.out
              rwa [List.take_of_length_le (show l.length ≤ k + qp + 1 by rw [HL.out]; omega)] at h
            have hlen : (strike Kd.k l).length = i := by rw [← htk, List.length_take, hm]; omega
            have hth := own_there HO.out (o := i * 4) (k := (n - i) * 4) (by omega)
            obtain ⟨Y, hY⟩ : ∃ Y, wr.setCells g (i * 4) (Builtin.zeroCells #[Value.int .i64 0, .int .i64 0, .int .i64 0, .slice none 0 0] (n - i)).toList = Y := ⟨_, rfl⟩
            have hclr := run_clear_kd wr 0 g (i * 4) (n - i) (c - i) (by omega) hth
            rw [hY] at hclr
            obtain ⟨ys, hys, hyt⟩ := own_setCells (Builtin.zeroCells #[Value.int .i64 0, .int .i64 0, .int .i64 0, .slice none 0 0] (n - i)).toList (i * 4) wr (kcs m) HO.out
            rw [hY] at hys
            have hcut := own_cut hys (i := i) (by omega)
            rw [hyt, kcs_take, htk] at hcut
            have HCUT := hide hcut
            have HLEN := hide hlen
            have HGY := hide (show w.grownBy Y (some g) by rw [← hY]; exact gb_setCells _ _ _ HG.out)
            have hnc2 : (i : Int) ≤ c := by omega
            have hiI : (i : Int) ≤ n := by omega
            have hci : ¬ c = i := by omega
            clear hth hY hys hyt hcut htk hlen hN2 hqq hqI
            go_wp2_with fail
            go_ret
            exact ⟨by rw [HLEN.out]; rfl, by rw [HLEN.out]; exact HCUT.out, HGY.out⟩
    · obtain rfl : k = n := by omega
      have HE := hide (show strike Kd.k l = l by
        have := strike_all (l := l) (n := k) HA.out
        rwa [List.take_of_length_le (by rw [HL.out]; exact Nat.le_refl _)] at this)
      have HO2 := hide (own_below HOW.out HB.out)
      have HG2 := hide (gb_le (r := some g) HB.out)
      have hle : ¬ (k : Int) < k := by omega
      go_wp2_with fail
      go_ret
      exact ⟨by rw [HE.out, HL.out]; rfl, by rw [HE.out, HL.out]; exact HO2.out, HG2.out⟩
#print axioms compact_any
end Go.Proofs.YtjedpjfmlaganaaDoor.vw
