/-
  Directories, walked: those of which something does not hold, in place, with a closure (written by mk_pld.py).
-/
import Derived.Test.YtnihladjafnjpaaPlD
namespace Go.Proofs.Ytnihladjafnjpaa
open Go.RowKit
set_option linter.unusedVariables false

theorem gb_le {w w1 : World} {r : Option Nat} (h : Le w w1) : w.grownBy w1 r := ⟨h.os, h.tape, h.output, h.size, fun k hk _ => h.block k hk⟩
theorem gb_trans {a b c : World} {r : Option Nat} (h : a.grownBy b r) (k : b.grownBy c r) : a.grownBy c r :=
  ⟨k.os.trans h.os, k.tape.trans h.tape, k.output.trans h.output, Nat.le_trans h.size k.size, fun j hj hr => (k.block j (Nat.lt_of_lt_of_le hj h.size) hr).trans (h.block j hj hr)⟩
theorem gb_setCell {a b : World} {g o : Nat} {v : Value} (h : a.grownBy b (some g)) : a.grownBy (b.setCell ⟨g, o, none⟩ v) (some g) :=
  ⟨h.os, h.tape, h.output, by simpa [World.setCell] using h.size, fun k hk hr => (Below.heap_setCell _ _ _ _ (fun e => hr (by rw [e]))).trans (h.block k hk hr)⟩
theorem gb_setCells {a : World} {g : Nat} : ∀ (vs : List Value) (o : Nat) (b : World), a.grownBy b (some g) → a.grownBy (b.setCells g o vs) (some g)
  | [], _, _, h => h
  | v :: vs, o, b, h => gb_setCells vs (o + 1) _ (gb_setCell h)
theorem own_there {w : World} {base size n c g : Nat} {e : TypeId} {xs : List Value} (h : w.ownsRow base e size (.slice (some ⟨g, 0, none⟩) n c) n xs) {o k : Nat} (hk : o + k ≤ n * size) : w.there g o k := by
  rcases h.2 with ⟨hv, -⟩ | ⟨g', cap, cur, hv, a1, a2, a3, a4, a5, a6⟩
  · cases hv
  · simp only [Value.slice.injEq, Option.some.injEq, Addr.mk.injEq, and_true, true_and] at hv
    obtain ⟨rfl, rfl⟩ := hv
    have hle : n * size ≤ c * size := Nat.mul_le_mul_right _ a3
    intro j hj
    have hb : Box w g cur e := a2
    refine ⟨?_, hb.frozen _⟩
    have hlt : o + j < cur.size := by omega
    rw [hb.cell (o + j) cur[o + j] (by simp [hlt])]
    rfl
theorem zero_dir (w : World) : (zeroValue 41).run Try.prog w = .ok (.agg #[.int .i64 0, .int .i64 0, .int .i64 0]) w := by kernel_rfl
theorem run_clear_dir (w : World) (ty : TypeId) (g o n c : Nat) (hn : 0 < n) (hth : w.there g o (n * 3)) :
    (Builtin.clear_ #[35] ty #[.slice (some ⟨g, o, none⟩) n c]).run Try.prog w = .ok (.tuple #[]) (w.setCells g o (Builtin.zeroCells #[Value.int .i64 0, .int .i64 0, .int .i64 0] n).toList) := by
  have hlen : (Builtin.zeroCells #[Value.int .i64 0, .int .i64 0, .int .i64 0] n).toList.length = n * 3 := by simp [Builtin.zeroCells]
  have hst := run_storeCells_cells (P := Try.prog) g o (Builtin.zeroCells #[Value.int .i64 0, .int .i64 0, .int .i64 0] n).toList 0 w (by intro j hj; rw [hlen] at hj; simpa using (hth j hj).1) (by intro j hj; rw [hlen] at hj; simpa using (hth j hj).2) (fun v hv => zero_dirs n v hv)
  simp only [Nat.add_zero] at hst
  obtain ⟨m, rfl⟩ : ∃ m, n = m + 1 := ⟨n - 1, by omega⟩
  have hz := zero_dir w
  simp [Builtin.clear_, run_underlying Try.underlying35, hz, Value.cells, hst]
theorem wpList_clear {P : Program} {w : World} {ops : Array Oper} {rest : List Oper} {o : Oper} {a : Act} {Q : Exit → Act → World → Prop} (hgd : o.guard = none) (s : Operand) (t : TypeId)
    (ho : o.op = .call { callee := .builtin .clear, args := #[s], argTypes := #[t] }) (vs : Value) (hs : a.eval s = vs) (w' : World)
    (hrun : (Builtin.clear_ #[t] o.type #[vs]).run P w = .ok (.tuple #[]) w') (h : wpList P ops Q rest (a.put o.dst (.tuple #[])) w') : wpList P ops Q (o :: rest) a w :=
  wpList_plain hgd fun K hK => by
    unfold Oper.wp execOp
    simp only [ho, resolve, invoke, builtin, Sem.run_bind, Sem.run_pure, Result.andThen_ok, List.map_toArray, List.map_cons, List.map_nil, hs, hrun]
    exact hK _ _ h
/-- Those of which it does not hold. -/
def kept (p : dr.Dr → Bool) (l : List dr.Dr) : List dr.Dr := l.filter fun d => !p d
theorem kept_all {p : dr.Dr → Bool} {l : List dr.Dr} (h : ∀ d ∈ l, p d = false) : kept p l = l := List.filter_eq_self.2 fun d hd => by rw [h d hd]; rfl
theorem kept_step {p : dr.Dr → Bool} {l : List dr.Dr} {j : Nat} {d : dr.Dr} (h : l[j]? = some d) : kept p (l.take (j + 1)) = kept p (l.take j) ++ (if p d then [] else [d]) := by
  unfold kept
  rw [List.take_add_one, h, List.filter_append]
  congr 1
  cases hp : p d <;> simp [hp]
theorem kept_len {p : dr.Dr → Bool} {l : List dr.Dr} (j : Nat) (hj : j ≤ l.length) : (kept p (l.take j)).length ≤ j := by
  have := List.length_filter_le (fun d => !p d) (l.take j)
  rw [List.length_take] at this
  unfold kept
  omega
theorem dcs_set : ∀ (l : List dr.Dr) (i : Nat) (d : dr.Dr), (((dcs l).set (i * 3) (.int .i64 d.k)).set (i * 3 + 1) (.int .i64 d.f)).set (i * 3 + 2) (.int .i64 d.t) = dcs (l.set i d)
  | [], i, d => by simp [dcs]
  | a :: l, 0, d => by
    rw [dcs_cons]
    rfl
  | a :: l, i + 1, d => by
    rw [dcs_cons, List.set_cons_succ, dcs_cons, ← dcs_set l i d, show (i + 1) * 3 = i * 3 + 1 + 1 + 1 by omega]
    simp only [List.set_cons_succ]

set_option maxRecDepth 100000 in
set_option maxHeartbeats 4000000 in
theorem deletef2_any (w : World) (B : Nat) (F : Nat) (q0 q1 : Value) (p : dr.Dr → Bool) (g n c : Nat) (l : List dr.Dr) (hl : l.length = n) (hn : n ≤ 1000000000) (hB : B ≤ w.heap.size) (hown : w.ownsRow B 41 3 (.slice (some ⟨g, 0, none⟩) n c) n (dcs l))
    (hF : ∀ args W, (callFunc F args).run Try.prog W = .ok (.enter F args) W)
    (hcl : ∀ W, Below B w W → ∀ d ∈ l, Calls Try.prog F #[.agg #[.int .i64 d.k, .int .i64 d.f, .int .i64 d.t], q0, q1] W fun e W' => e = .returned (.bool (p d)) ∧ Below W.heap.size W W') :
    Calls Try.prog 30 #[.slice (some ⟨g, 0, none⟩) n c, .func (.func F) #[] #[q0, q1]] w fun e w' => e = .returned (.slice (some ⟨g, 0, none⟩) (kept p l).length c) ∧ w'.ownsRow B 41 3 (.slice (some ⟨g, 0, none⟩) (kept p l).length c) (kept p l).length (dcs (kept p l)) ∧ Below B w w' := by
  have HL := hide hl
  have HOW := hide hown
  have HC := hide hcl
  have hix := hide (indexf2_any w F q0 q1 p (some ⟨g, 0, none⟩) n c l hl hn (Row.of_own hown) hF (fun W hW d hd => hcl W (Below.mono hW hB) d hd))
  have hBg : B ≤ g := by
    rcases hown.2 with ⟨hv, -⟩ | ⟨g', cap, cur, hv, a1, -⟩
    · cases hv
    · simp only [Value.slice.injEq, Option.some.injEq, Addr.mk.injEq, and_true, true_and] at hv
      obtain ⟨rfl, rfl⟩ := hv
      exact a1
  obtain ⟨hnc, hcm⟩ : n ≤ c ∧ c ≤ maxLen := by
    obtain ⟨A, c', e, h1, h2⟩ := own_form hown
    simp only [Value.slice.injEq] at e
    obtain ⟨-, -, rfl⟩ := e
    exact ⟨h1, h2⟩
  clear hl hown hcl
  go_enter Try.func30, Try.ntmps30
  go_wp2_with fail
  refine hix.out.mono ?_
  rintro e w1 ⟨x, rfl, hx, hb⟩
  have HB1 := hide (show Below B w w1 from Below.mono hb hB)
  have HO1 := hide (own_below HOW.out hb)
  clear hb
  rcases hx with ⟨rfl, hall⟩ | ⟨i0, d0, rfl, hd0, hp0, hpre⟩
  · have hk := kept_all hall
    have HK := hide hk
    clear hk hall
    go_wp2_with fail
    go_ret
    exact ⟨by rw [HK.out, HL.out]; rfl, by rw [HK.out, HL.out]; exact HO1.out, HB1.out⟩
  · have hi0n : i0 < n := by
      have := (List.getElem?_eq_some_iff.1 hd0).1
      rw [HL.out] at this
      exact this
    have hk0 : kept p (l.take (i0 + 1)) = l.take i0 := by
      rw [kept_step hd0, hp0, kept_all hpre]
      simp
    have HI0 := hide (show (l : List dr.Dr).take i0 = kept p (l.take (i0 + 1)) from hk0.symm)
    have hne : ((i0 : Int) == -1) = false := by
      rw [beq_eq_false_iff_ne]; omega
    clear hd0 hp0 hpre hk0
    go_upto_region 4 with fail
    go_wp2_with fail
    go_loopw [5, 6] (fun a b wr => ∃ (i j : Nat) (m : List dr.Dr), a = .int .i64 i ∧ b = .int .i64 j ∧ i < j ∧ j ≤ n ∧ m.length = n ∧ Hid (m.take i = kept p (l.take j)) ∧ Hid (m.drop j = l.drop j) ∧ Hid (i = (kept p (l.take j)).length) ∧ Hid (wr.ownsRow B 41 3 (.slice (some ⟨g, 0, none⟩) n c) n (dcs m)) ∧ Hid (Below B w wr)) (fun _ b _ => n - (intOf b).toNat)
    case atStart => exact ⟨i0, i0 + 1, l, rfl, by go_num, by omega, by omega, HL.out, HI0, hide rfl, hide (by rw [← HI0.out, List.length_take, HL.out]; omega), HO1, HB1⟩
    case round =>
      obtain ⟨i, j, m, rfl, rfl, hij, hj, hm, HTK, HDR, HIL, HO, HB⟩ := hrel
      by_cases hjn : j < n
      · obtain ⟨d, hd⟩ : ∃ d, l[j]? = some d := ⟨_, List.getElem?_eq_getElem (by rw [HL.out]; exact hjn)⟩
        have hmd : m[j]? = some d := by
          have h := congrArg (fun l => l[0]?) HDR.out
          simp only [List.getElem?_drop, Nat.add_zero] at h
          rw [h, hd]
        obtain ⟨bA, oA, hA, hbA, r0, r1, r2⟩ := row_dr (Row.of_own HO.out) hmd
        simp only [Option.some.injEq, Addr.mk.injEq, and_true] at hA
        obtain ⟨rfl, rfl⟩ := hA
        rw [Nat.zero_add] at r0 r1 r2
        have hjI : (j : Int) < n := by omega
        have hcd := hide (fun W (h : Below B w W) => HC.out W h d (List.mem_of_getElem? hd))
        have HST := hide (kept_step (p := p) hd)
        obtain ⟨v, hv⟩ : ∃ v, p d = v := ⟨_, rfl⟩
        rw [hv] at hcd HST
        have HMD := hide hmd
        clear hd hv hmd
        have hzr := Nat.le_trans hB HB.out.size
        go_upto_region 8 with fail
        obtain ⟨X, hX, bX, hlX⟩ : ∃ X, wr.alloc (.cells #[.int .i64 d.k, .int .i64 d.f, .int .i64 d.t] 41) = X ∧ Box X wr.heap.size #[.int .i64 d.k, .int .i64 d.f, .int .i64 d.t] 41 ∧ Le wr X := ⟨_, rfl, box_new _ _ _, (Below.refl _ _).alloc (Nat.le_refl _) _⟩
        rw [hX]
        have HBX := hide (show Below B w X from Below.trans HB.out (Below.mono hlX hzr))
        have HOX := hide (own_below HO.out hlX)
        have BX := hide bX
        have e0 := bX.cell 0 (.int .i64 d.k) rfl
        have e1 := bX.cell 1 (.int .i64 d.f) rfl
        have e2 := bX.cell 2 (.int .i64 d.t) rfl
        clear hX bX hlX r0 r1 r2
        go_wp2_with fail
        refine (hcd.out X HBX.out).mono ?_
        rintro e w2 ⟨rfl, hb⟩
        have HB2 := hide (show Below B w w2 from Below.trans HBX.out (Below.mono hb (Nat.le_trans hB HBX.out.size)))
        have HO2 := hide (own_below HOX.out hb)
        have BX2 := hide (BX.out.below hb BX.out.lt)
        clear hb e0 e1 e2
        have HDR2 := hide (show m.drop (j + 1) = l.drop (j + 1) by
          have h := congrArg (List.drop 1) HDR.out
          rw [List.drop_drop, List.drop_drop] at h
          exact h)
        cases v
        · have e0 := BX2.out.cell 0 (.int .i64 d.k) rfl
          have e1 := BX2.out.cell 1 (.int .i64 d.f) rfl
          have e2 := BX2.out.cell 2 (.int .i64 d.t) rfl
          have hth := own_there HO2.out (o := i * 3) (k := 3) (by omega)
          have hiI : (i : Int) < n := by omega
          go_upto_region 10 with (refine wpList_store_mid rfl 41 _ _ rfl g (i * 3) (dcell d) (by first | rfl | (show Value.pointer _ = _; simp)) rfl hth (by kernel_rfl) (dr_one d) ?_)
          obtain ⟨Y, hY⟩ : ∃ Y, w2.setCells g (i * 3) (dcell d).toList = Y := ⟨_, rfl⟩
          have HOY := hide (show Y.ownsRow B 41 3 (.slice (some ⟨g, 0, none⟩) n c) n (dcs (m.set i d)) by
            rw [← hY, ← dcs_set]
            exact (((HO2.out.stored (i * 3) (.int .i64 d.k)).1.stored (i * 3 + 1) (.int .i64 d.f)).1.stored (i * 3 + 2) (.int .i64 d.t)).1)
          have HBY := hide (show Below B w Y by rw [← hY]; exact below_setCells' hBg _ _ _ HB2.out)
          rw [hY]
          clear hY e0 e1 e2 hth
          go_wp2_with fail
          refine ⟨⟨i + 1, j + 1, m.set i d, by go_num, by go_num, by omega, by omega, by simp [hm], hide ?_, hide ?_, hide ?_, HOY, HBY⟩, by simp [intOf]; omega⟩
          · rw [List.take_add_one, List.take_set_of_le (Nat.le_refl _), HTK.out, List.getElem?_set_self (by omega), HST.out]
            rfl
          · rw [List.drop_set_of_lt (by omega), HDR2.out]
          · rw [HST.out, List.length_append, ← HIL.out]
            rfl
        · go_wp2_with fail
          refine ⟨⟨i, j + 1, m, rfl, by go_num, by omega, by omega, hm, hide ?_, HDR2, hide ?_, HO2, HB2⟩, by simp [intOf]; omega⟩
          · rw [HTK.out, HST.out]; simp
          · rw [HST.out]; simp [HIL.out]
      · obtain rfl : j = n := by omega
        have hall : l.take j = l := List.take_of_length_le (by rw [HL.out]; exact Nat.le_refl _)
        rw [hall] at HTK HIL
        have hth := own_there HO.out (o := i * 3) (k := (j - i) * 3) (by omega)
        obtain ⟨Y, hY⟩ : ∃ Y, wr.setCells g (i * 3) (Builtin.zeroCells #[Value.int .i64 0, .int .i64 0, .int .i64 0] (j - i)).toList = Y := ⟨_, rfl⟩
        have hclr := run_clear_dir wr 0 g (i * 3) (j - i) (c - i) (by omega) hth
        rw [hY] at hclr
        obtain ⟨ys, hys, hyt⟩ := own_setCells (Builtin.zeroCells #[Value.int .i64 0, .int .i64 0, .int .i64 0] (j - i)).toList (i * 3) wr (dcs m) HO.out
        rw [hY] at hys
        have hcut := own_cut hys (i := i) (by omega)
        rw [hyt, dcs_take, HTK.out] at hcut
        have HCUT := hide hcut
        have HBY := hide (show Below B w Y by rw [← hY]; exact below_setCells' hBg _ _ _ HB.out)
        have hjc : (j : Int) ≤ c := by omega
        have hiI : (i : Int) ≤ j := by omega
        have hic : (i : Int) ≤ c := by omega
        clear hth hY hys hyt hcut
        go_upto_region 11 with fail
        go_wp2_with fail
        go_ret
        exact ⟨by rw [← HIL.out]; rfl, by rw [← HIL.out]; exact HCUT.out, HBY.out⟩
#print axioms deletef2_any

set_option maxRecDepth 100000 in
set_option maxHeartbeats 4000000 in
theorem deletef3_any (w : World) (B : Nat) (F : Nat) (q0 q1 q2 : Value) (p : dr.Dr → Bool) (g n c : Nat) (l : List dr.Dr) (hl : l.length = n) (hn : n ≤ 1000000000) (hB : B ≤ w.heap.size) (hown : w.ownsRow B 41 3 (.slice (some ⟨g, 0, none⟩) n c) n (dcs l))
    (hF : ∀ args W, (callFunc F args).run Try.prog W = .ok (.enter F args) W)
    (hcl : ∀ W, Below B w W → ∀ d ∈ l, Calls Try.prog F #[.agg #[.int .i64 d.k, .int .i64 d.f, .int .i64 d.t], q0, q1, q2] W fun e W' => e = .returned (.bool (p d)) ∧ Below W.heap.size W W') :
    Calls Try.prog 30 #[.slice (some ⟨g, 0, none⟩) n c, .func (.func F) #[] #[q0, q1, q2]] w fun e w' => e = .returned (.slice (some ⟨g, 0, none⟩) (kept p l).length c) ∧ w'.ownsRow B 41 3 (.slice (some ⟨g, 0, none⟩) (kept p l).length c) (kept p l).length (dcs (kept p l)) ∧ Below B w w' ∧ w.grownBy w' (some g) := by
  have HL := hide hl
  have HOW := hide hown
  have HC := hide hcl
  have hix := hide (indexf3_any w F q0 q1 q2 p (some ⟨g, 0, none⟩) n c l hl hn (Row.of_own hown) hF (fun W hW d hd => hcl W (Below.mono hW hB) d hd))
  have hBg : B ≤ g := by
    rcases hown.2 with ⟨hv, -⟩ | ⟨g', cap, cur, hv, a1, -⟩
    · cases hv
    · simp only [Value.slice.injEq, Option.some.injEq, Addr.mk.injEq, and_true, true_and] at hv
      obtain ⟨rfl, rfl⟩ := hv
      exact a1
  obtain ⟨hnc, hcm⟩ : n ≤ c ∧ c ≤ maxLen := by
    obtain ⟨A, c', e, h1, h2⟩ := own_form hown
    simp only [Value.slice.injEq] at e
    obtain ⟨-, -, rfl⟩ := e
    exact ⟨h1, h2⟩
  clear hl hown hcl
  go_enter Try.func30, Try.ntmps30
  go_wp2_with fail
  refine hix.out.mono ?_
  rintro e w1 ⟨x, rfl, hx, hb⟩
  have HB1 := hide (show Below B w w1 from Below.mono hb hB)
  have HG1 := hide (gb_le (r := some g) hb)
  have HO1 := hide (own_below HOW.out hb)
  clear hb
  rcases hx with ⟨rfl, hall⟩ | ⟨i0, d0, rfl, hd0, hp0, hpre⟩
  · have hk := kept_all hall
    have HK := hide hk
    clear hk hall
    go_wp2_with fail
    go_ret
    exact ⟨by rw [HK.out, HL.out]; rfl, by rw [HK.out, HL.out]; exact HO1.out, HB1.out, HG1.out⟩
  · have hi0n : i0 < n := by
      have := (List.getElem?_eq_some_iff.1 hd0).1
      rw [HL.out] at this
      exact this
    have hk0 : kept p (l.take (i0 + 1)) = l.take i0 := by
      rw [kept_step hd0, hp0, kept_all hpre]
      simp
    have HI0 := hide (show (l : List dr.Dr).take i0 = kept p (l.take (i0 + 1)) from hk0.symm)
    have hne : ((i0 : Int) == -1) = false := by
      rw [beq_eq_false_iff_ne]; omega
    clear hd0 hp0 hpre hk0
    go_upto_region 4 with fail
    go_wp2_with fail
    go_loopw [5, 6] (fun a b wr => ∃ (i j : Nat) (m : List dr.Dr), a = .int .i64 i ∧ b = .int .i64 j ∧ i < j ∧ j ≤ n ∧ m.length = n ∧ Hid (m.take i = kept p (l.take j)) ∧ Hid (m.drop j = l.drop j) ∧ Hid (i = (kept p (l.take j)).length) ∧ Hid (wr.ownsRow B 41 3 (.slice (some ⟨g, 0, none⟩) n c) n (dcs m)) ∧ Hid (Below B w wr) ∧ Hid (w.grownBy wr (some g))) (fun _ b _ => n - (intOf b).toNat)
    case atStart => exact ⟨i0, i0 + 1, l, rfl, by go_num, by omega, by omega, HL.out, HI0, hide rfl, hide (by rw [← HI0.out, List.length_take, HL.out]; omega), HO1, HB1, HG1⟩
    case round =>
      obtain ⟨i, j, m, rfl, rfl, hij, hj, hm, HTK, HDR, HIL, HO, HB, HG⟩ := hrel
      by_cases hjn : j < n
      · obtain ⟨d, hd⟩ : ∃ d, l[j]? = some d := ⟨_, List.getElem?_eq_getElem (by rw [HL.out]; exact hjn)⟩
        have hmd : m[j]? = some d := by
          have h := congrArg (fun l => l[0]?) HDR.out
          simp only [List.getElem?_drop, Nat.add_zero] at h
          rw [h, hd]
        obtain ⟨bA, oA, hA, hbA, r0, r1, r2⟩ := row_dr (Row.of_own HO.out) hmd
        simp only [Option.some.injEq, Addr.mk.injEq, and_true] at hA
        obtain ⟨rfl, rfl⟩ := hA
        rw [Nat.zero_add] at r0 r1 r2
        have hjI : (j : Int) < n := by omega
        have hcd := hide (fun W (h : Below B w W) => HC.out W h d (List.mem_of_getElem? hd))
        have HST := hide (kept_step (p := p) hd)
        obtain ⟨v, hv⟩ : ∃ v, p d = v := ⟨_, rfl⟩
        rw [hv] at hcd HST
        have HMD := hide hmd
        clear hd hv hmd
        have hzr := Nat.le_trans hB HB.out.size
        go_upto_region 8 with fail
        obtain ⟨X, hX, bX, hlX⟩ : ∃ X, wr.alloc (.cells #[.int .i64 d.k, .int .i64 d.f, .int .i64 d.t] 41) = X ∧ Box X wr.heap.size #[.int .i64 d.k, .int .i64 d.f, .int .i64 d.t] 41 ∧ Le wr X := ⟨_, rfl, box_new _ _ _, (Below.refl _ _).alloc (Nat.le_refl _) _⟩
        rw [hX]
        have HBX := hide (show Below B w X from Below.trans HB.out (Below.mono hlX hzr))
        have HGX := hide (gb_trans HG.out (gb_le hlX))
        have HOX := hide (own_below HO.out hlX)
        have BX := hide bX
        have e0 := bX.cell 0 (.int .i64 d.k) rfl
        have e1 := bX.cell 1 (.int .i64 d.f) rfl
        have e2 := bX.cell 2 (.int .i64 d.t) rfl
        clear hX bX hlX r0 r1 r2
        go_wp2_with fail
        refine (hcd.out X HBX.out).mono ?_
        rintro e w2 ⟨rfl, hb⟩
        have HB2 := hide (show Below B w w2 from Below.trans HBX.out (Below.mono hb (Nat.le_trans hB HBX.out.size)))
        have HG2 := hide (gb_trans HGX.out (gb_le hb))
        have HO2 := hide (own_below HOX.out hb)
        have BX2 := hide (BX.out.below hb BX.out.lt)
        clear hb e0 e1 e2
        have HDR2 := hide (show m.drop (j + 1) = l.drop (j + 1) by
          have h := congrArg (List.drop 1) HDR.out
          rw [List.drop_drop, List.drop_drop] at h
          exact h)
        cases v
        · have e0 := BX2.out.cell 0 (.int .i64 d.k) rfl
          have e1 := BX2.out.cell 1 (.int .i64 d.f) rfl
          have e2 := BX2.out.cell 2 (.int .i64 d.t) rfl
          have hth := own_there HO2.out (o := i * 3) (k := 3) (by omega)
          have hiI : (i : Int) < n := by omega
          go_upto_region 10 with (refine wpList_store_mid rfl 41 _ _ rfl g (i * 3) (dcell d) (by first | rfl | (show Value.pointer _ = _; simp)) rfl hth (by kernel_rfl) (dr_one d) ?_)
          obtain ⟨Y, hY⟩ : ∃ Y, w2.setCells g (i * 3) (dcell d).toList = Y := ⟨_, rfl⟩
          have HOY := hide (show Y.ownsRow B 41 3 (.slice (some ⟨g, 0, none⟩) n c) n (dcs (m.set i d)) by
            rw [← hY, ← dcs_set]
            exact (((HO2.out.stored (i * 3) (.int .i64 d.k)).1.stored (i * 3 + 1) (.int .i64 d.f)).1.stored (i * 3 + 2) (.int .i64 d.t)).1)
          have HBY := hide (show Below B w Y by rw [← hY]; exact below_setCells' hBg _ _ _ HB2.out)
          have HGY := hide (show w.grownBy Y (some g) by rw [← hY]; exact gb_setCells _ _ _ HG2.out)
          rw [hY]
          clear hY e0 e1 e2 hth
          go_wp2_with fail
          refine ⟨⟨i + 1, j + 1, m.set i d, by go_num, by go_num, by omega, by omega, by simp [hm], hide ?_, hide ?_, hide ?_, HOY, HBY, HGY⟩, by simp [intOf]; omega⟩
          · rw [List.take_add_one, List.take_set_of_le (Nat.le_refl _), HTK.out, List.getElem?_set_self (by omega), HST.out]
            rfl
          · rw [List.drop_set_of_lt (by omega), HDR2.out]
          · rw [HST.out, List.length_append, ← HIL.out]
            rfl
        · go_wp2_with fail
          refine ⟨⟨i, j + 1, m, rfl, by go_num, by omega, by omega, hm, hide ?_, HDR2, hide ?_, HO2, HB2, HG2⟩, by simp [intOf]; omega⟩
          · rw [HTK.out, HST.out]; simp
          · rw [HST.out]; simp [HIL.out]
      · obtain rfl : j = n := by omega
        have hall : l.take j = l := List.take_of_length_le (by rw [HL.out]; exact Nat.le_refl _)
        rw [hall] at HTK HIL
        have hth := own_there HO.out (o := i * 3) (k := (j - i) * 3) (by omega)
        obtain ⟨Y, hY⟩ : ∃ Y, wr.setCells g (i * 3) (Builtin.zeroCells #[Value.int .i64 0, .int .i64 0, .int .i64 0] (j - i)).toList = Y := ⟨_, rfl⟩
        have hclr := run_clear_dir wr 0 g (i * 3) (j - i) (c - i) (by omega) hth
        rw [hY] at hclr
        obtain ⟨ys, hys, hyt⟩ := own_setCells (Builtin.zeroCells #[Value.int .i64 0, .int .i64 0, .int .i64 0] (j - i)).toList (i * 3) wr (dcs m) HO.out
        rw [hY] at hys
        have hcut := own_cut hys (i := i) (by omega)
        rw [hyt, dcs_take, HTK.out] at hcut
        have HCUT := hide hcut
        have HBY := hide (show Below B w Y by rw [← hY]; exact below_setCells' hBg _ _ _ HB.out)
        have HGY := hide (show w.grownBy Y (some g) by rw [← hY]; exact gb_setCells _ _ _ HG.out)
        have hjc : (j : Int) ≤ c := by omega
        have hiI : (i : Int) ≤ j := by omega
        have hic : (i : Int) ≤ c := by omega
        clear hth hY hys hyt hcut
        go_upto_region 11 with fail
        go_wp2_with fail
        go_ret
        exact ⟨by rw [← HIL.out]; rfl, by rw [← HIL.out]; exact HCUT.out, HBY.out, HGY.out⟩
#print axioms deletef3_any
end Go.Proofs.Ytnihladjafnjpaa
