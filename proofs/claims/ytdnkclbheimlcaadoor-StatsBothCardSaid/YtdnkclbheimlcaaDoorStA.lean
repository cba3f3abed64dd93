/-
  What is known of values, walked: sums of two words.
-/
import Derived.Test.YtdnkclbheimlcaaDoorStMath
import Derived.Test.YtdnkclbheimlcaaDoorMayC
import Derived.Laws.Externs
namespace Go.Proofs.YtdnkclbheimlcaaDoor
open Go.RowKit
set_option linter.unusedVariables false

theorem add_extern (x y : Int) (hx : 0 ≤ x) (hy : 0 ≤ y) (w : World) : (callFunc 27 #[.int .u64 x, .int .u64 y, .int .u64 0]).run Tryd.prog w =
    .ok (.value (.tuple #[.int .u64 ((x + y) % 18446744073709551616), .int .u64 ((x + y) / 18446744073709551616)])) w := by
  rw [run_callFunc_extern Tryd.func27 (by kernel_rfl) (by kernel_rfl) (by kernel_rfl) (e := add64Entry) (by kernel_rfl), run_add64 x y 0 hx hy (by decide) (by decide)]
  simp only [Result.andThen, Int.add_zero]

theorem pairbox (w : World) (a b : Value) (t : TypeId) : ∃ W, w.alloc (.cells #[a, b] t) = W ∧ Box W w.heap.size #[a, b] t ∧ Le w W ∧ W.heap.size = w.heap.size + 1 :=
  ⟨_, rfl, box_new _ _ _, (Below.refl _ _).alloc (Nat.le_refl _) _, by simp⟩
set_option maxRecDepth 100000 in
theorem add_any (w : World) (t n : Int) (ht : -18889465931478580854784 ≤ t ∧ t ≤ 18889465931478580854784) (hn : st.In n) :
    Calls Tryd.prog 19 #[.agg #[.int .i64 (t / 18446744073709551616), .int .u64 (t % 18446744073709551616)], .int .i64 n] w fun e w' => e = .returned (.agg #[.int .i64 ((t + n) / 18446744073709551616), .int .u64 ((t + n) % 18446744073709551616)]) ∧ Below w.heap.size w w' := by
  unfold st.In at hn
  obtain ⟨hi, hhi⟩ : ∃ hi, t / 18446744073709551616 = hi := ⟨_, rfl⟩
  obtain ⟨lo, hlo⟩ : ∃ lo, t % 18446744073709551616 = lo := ⟨_, rfl⟩
  obtain ⟨u, hu⟩ : ∃ u, IntKind.u64.wrap n = u := ⟨_, rfl⟩
  have hu' : u = n % 18446744073709551616 := by rw [← hu, IntKind.wrap_u64]
  obtain ⟨lo2, hlo2⟩ : ∃ lo2, (lo + u) % 18446744073709551616 = lo2 := ⟨_, rfl⟩
  obtain ⟨cy, hcy⟩ : ∃ cy, (lo + u) / 18446744073709551616 = cy := ⟨_, rfl⟩
  have hadd := add_extern lo u (by omega) (by omega)
  rw [hlo2, hcy] at hadd
  rw [hhi, hlo]
  have HHI := hide hhi
  have HLO := hide hlo
  have HU := hide hu'
  have HLO2 := hide hlo2
  have HCY := hide hcy
  have HTT := hide ht
  have HN := hide hn
  clear hhi hlo hu' hlo2 hcy ht hn
  obtain ⟨W, hW, bx, hb, hz⟩ := pairbox w (.int .i64 hi) (.int .u64 lo) 39
  have HW := hide hW
  have HB := hide hb
  have c0 := bx.cell 0 (.int .i64 hi) rfl
  have c1 := bx.cell 1 (.int .u64 lo) rfl
  clear hW bx hb
  go_enter Tryd.func19, Tryd.ntmps19
  go_wp2_with fail
  obtain ⟨ho, hho⟩ : ∃ ho, wrap64 (wrap64 (hi + n / 9223372036854775808) + wrap64 cy) = ho := ⟨_, rfl⟩
  rw [hho]
  have bz : Box ((w.alloc (.cells #[.int .i64 hi, .int .u64 lo] 39)).alloc (.cells #[.int .i64 ho, .int .u64 lo2] 39)) (w.heap.size + 1) #[.int .i64 ho, .int .u64 lo2] 39 := by
    have h := box_new (w.alloc (.cells #[.int .i64 hi, .int .u64 lo] 39)) #[.int .i64 ho, .int .u64 lo2] 39
    have e : (w.alloc (.cells #[.int .i64 hi, .int .u64 lo] 39)).heap.size = w.heap.size + 1 := by simp
    rw [e] at h
    exact h
  refine bodyPost_ret (box_results rfl _ bz rfl Tryd.underlying39 rfl rfl) rfl ?_
  have h1 := HHI.out
  have h2 := HLO.out
  have h3 := HU.out
  have h4 := HLO2.out
  have h5 := HCY.out
  have h6 := HTT.out
  have h7 := HN.out
  have e1 : ho = (t + n) / 18446744073709551616 := by
    have hc1 : -1030 ≤ hi ∧ hi ≤ 1030 := by omega
    have hq : n / 9223372036854775808 = -1 ∨ n / 9223372036854775808 = 0 := by omega
    have hc2 : cy = 0 ∨ cy = 1 := by omega
    have w1 : wrap64 cy = cy := by unfold wrap64; omega
    have w2 : wrap64 (hi + n / 9223372036854775808) = hi + n / 9223372036854775808 := by unfold wrap64; omega
    rw [w1, w2] at hho
    have w3 : wrap64 (hi + n / 9223372036854775808 + cy) = hi + n / 9223372036854775808 + cy := by unfold wrap64; omega
    rw [w3] at hho
    omega
  have e2 : lo2 = (t + n) % 18446744073709551616 := by omega
  refine ⟨by rw [e1, e2], ((Below.refl _ _).alloc (Nat.le_refl _) _).alloc (by simp) _⟩
#print axioms add_any

set_option maxRecDepth 100000 in
/-- A sum of two words, as a number. -/
theorem sum_any (w : World) (t : Int) (ht : -18889465931478580854784 ≤ t ∧ t ≤ 18889465931478580854784) :
    Calls Tryd.prog 28 #[.agg #[.int .i64 (t / 18446744073709551616), .int .u64 (t % 18446744073709551616)]] w fun e w' => e = .returned (.tuple #[.int .i64 (st.sumOf t).1, .bool (!(st.sumOf t).2)]) ∧ Below w.heap.size w w' := by
  obtain ⟨hi, hhi⟩ : ∃ hi, t / 18446744073709551616 = hi := ⟨_, rfl⟩
  obtain ⟨lo, hlo⟩ : ∃ lo, t % 18446744073709551616 = lo := ⟨_, rfl⟩
  rw [hhi, hlo]
  obtain ⟨W, hW, bx, hb, hz⟩ := pairbox w (.int .i64 hi) (.int .u64 lo) 39
  have HB := hide hb
  have c0 := bx.cell 0 (.int .i64 hi) rfl
  have c1 := bx.cell 1 (.int .u64 lo) rfl
  obtain ⟨n, hn⟩ : ∃ n, wrap64 lo = n := ⟨_, rfl⟩
  have hn' : n = (if lo < 9223372036854775808 then lo else lo - 18446744073709551616) := by rw [← hn]; unfold wrap64; split <;> omega
  by_cases hf : st.In t
  · have hs : st.sumOf t = (n, false) := by
      unfold st.sumOf
      rw [if_pos hf, hn']
      unfold st.In at hf
      congr 1
      split <;> omega
    rw [hs]
    have hh : (hi != n / 9223372036854775808) = false := by
      unfold st.In at hf
      rw [hn']
      simp only [bne_eq_false_iff_eq]
      split <;> omega
    have HW := hide hW
    clear hW bx hb hhi hlo hn' hs ht hf
    go_enter Tryd.func28, Tryd.ntmps28
    go_wp2_with fail
    go_ret2
    exact ⟨by rw [← hn]; rfl, (Below.refl _ _).alloc (Nat.le_refl _) _⟩
  · have hs : st.sumOf t = (0, true) := by
      unfold st.sumOf
      rw [if_neg hf]
    rw [hs]
    have hh : (hi != n / 9223372036854775808) = true := by
      unfold st.In at hf
      rw [hn']
      simp only [bne_iff_ne, ne_eq]
      split <;> omega
    have HW := hide hW
    clear hW bx hb hhi hlo hn' hs ht hf
    go_enter Tryd.func28, Tryd.ntmps28
    go_wp2_with fail
    go_ret2
    exact ⟨rfl, (Below.refl _ _).alloc (Nat.le_refl _) _⟩
#print axioms sum_any

theorem box3 (w : World) (cs ds es : Array Value) (t u v : TypeId) : ∃ W, ((w.alloc (.cells cs t)).alloc (.cells ds u)).alloc (.cells es v) = W ∧ Box W w.heap.size cs t ∧ Box W (w.heap.size + 1) ds u ∧ Box W (w.heap.size + 1 + 1) es v ∧ Below w.heap.size w W ∧ W.heap.size = w.heap.size + 3 := by
  refine ⟨_, rfl, ((box_new _ _ _).alloc _).alloc _, ?_, ?_, (((Below.refl _ _).alloc (Nat.le_refl _) _).alloc (by simp) _).alloc (by simp; omega) _, by simp⟩
  · have h := box_new (w.alloc (.cells cs t)) ds u
    have e : (w.alloc (.cells cs t)).heap.size = w.heap.size + 1 := by simp
    rw [e] at h
    exact h.alloc _
  · have h := box_new ((w.alloc (.cells cs t)).alloc (.cells ds u)) es v
    have e : ((w.alloc (.cells cs t)).alloc (.cells ds u)).heap.size = w.heap.size + 1 + 1 := by simp
    rw [e] at h
    exact h

theorem box3e (w : World) (cs ds es : Array Value) (t u v : TypeId) : Box (((w.alloc (.cells cs t)).alloc (.cells ds u)).alloc (.cells es v)) (w.heap.size + 1 + 1) es v := by
  obtain ⟨W, rfl, -, -, h, -, -⟩ := box3 w cs ds es t u v
  exact h
theorem below3e (w : World) (cs ds es : Array Value) (t u v : TypeId) : Below w.heap.size w (((w.alloc (.cells cs t)).alloc (.cells ds u)).alloc (.cells es v)) := by
  obtain ⟨W, rfl, -, -, -, h, -⟩ := box3 w cs ds es t u v
  exact h

set_option maxRecDepth 100000 in
set_option maxHeartbeats 1000000 in
theorem best_any (w : World) (way : Int) (hway : way = -1 ∨ way = 1) (a b : va.Val) :
    Calls Tryd.prog 18 #[.int .i64 way, .agg #[.bool a.nul, .int .i64 a.n, .string a.s], .agg #[.bool b.nul, .int .i64 b.n, .string b.s]] w fun e w' => e = .returned (.agg #[.bool (st.best way a b).nul, .int .i64 (st.best way a b).n, .string (st.best way a b).s]) ∧ Below w.heap.size w w' := by
  obtain ⟨x, hx⟩ : ∃ x, va.cmpV b a = x := ⟨_, rfl⟩
  have hxl := va.cmpV_le b a
  rw [hx] at hxl
  have hcmp := hide (fun (w : World) => hx ▸ compare_any w b a)
  obtain ⟨an, ai, as_⟩ := a
  obtain ⟨bn, bi, bs⟩ := b
  have hbest : st.best way ⟨an, ai, as_⟩ ⟨bn, bi, bs⟩ = if an then ⟨bn, bi, bs⟩ else if !bn && decide (0 < way * x) then ⟨bn, bi, bs⟩ else ⟨an, ai, as_⟩ := by unfold st.best; rw [hx]
  rw [hbest]
  simp only at hcmp ⊢
  obtain ⟨W, hW, h0, h1, h2, hb, hz⟩ := box3 w #[.bool an, .int .i64 ai, .string as_] #[.bool bn, .int .i64 bi, .string bs] #[.bool false, .int .i64 0, .string ⟨#[]⟩] 26 26 26
  have HW := hide hW
  have HB := hide hb
  have H0 := hide h0
  have H1 := hide h1
  have H2 := hide h2
  have a0 := h0.cell 0 (.bool an) rfl
  have a1 := h0.cell 1 (.int .i64 ai) rfl
  have a2 := h0.cell 2 (.string as_) rfl
  have b0 := h1.cell 0 (.bool bn) rfl
  have b1 := h1.cell 1 (.int .i64 bi) rfl
  have b2 := h1.cell 2 (.string bs) rfl
  have c0 := h2.cell 0 (.bool false) rfl
  have c1 := h2.cell 1 (.int .i64 0) rfl
  have c2 := h2.cell 2 (.string ⟨#[]⟩) rfl
  have f0 := h2.frozen 0
  have f1 := h2.frozen 1
  have f2 := h2.frozen 2
  clear hW hb h0 h1 h2 hbest hx
  cases an with
  | true =>
    go_enter Tryd.func18, Tryd.ntmps18
    go_wp2_with fail
    refine bodyPost_ret (box_results rfl _ (box3e _ _ _ _ _ _ _) rfl Tryd.underlying26 rfl rfl) rfl ?_
    exact ⟨rfl, below3e _ _ _ _ _ _ _⟩
  | false =>
    cases bn with
    | true =>
      go_enter Tryd.func18, Tryd.ntmps18
      go_wp2_with fail
      refine bodyPost_ret (box_results rfl _ (box3e _ _ _ _ _ _ _) rfl Tryd.underlying26 rfl rfl) rfl ?_
      exact ⟨rfl, below3e _ _ _ _ _ _ _⟩
    | false =>
      go_enter Tryd.func18, Tryd.ntmps18
      go_wp2_with fail
      rw [HW.out]
      refine (hcmp.out W).mono ?_
      rintro e w1 ⟨rfl, hb1⟩
      have HB1 := hide (HB.out.trans (Below.mono hb1 (by omega)))
      have h0' := H0.out.below hb1 H0.out.lt
      have h1' := H1.out.below hb1 H1.out.lt
      have h2' := H2.out.below hb1 H2.out.lt
      have a0 := h0'.cell 0 (.bool false) rfl
      have a1 := h0'.cell 1 (.int .i64 ai) rfl
      have a2 := h0'.cell 2 (.string as_) rfl
      have b0 := h1'.cell 0 (.bool false) rfl
      have b1 := h1'.cell 1 (.int .i64 bi) rfl
      have b2 := h1'.cell 2 (.string bs) rfl
      have c0 := h2'.cell 0 (.bool false) rfl
      have c1 := h2'.cell 1 (.int .i64 0) rfl
      have c2 := h2'.cell 2 (.string ⟨#[]⟩) rfl
      have f0 := h2'.frozen 0
      have f1 := h2'.frozen 1
      have f2 := h2'.frozen 2
      have H2' := hide h2'
      clear hb1 h0' h1' h2' hcmp HW
      have hx3 : x = -1 ∨ x = 0 ∨ x = 1 := by omega
      rcases hway with rfl | rfl <;> rcases hx3 with rfl | rfl | rfl
      all_goals
        go_wp2_with fail
        refine bodyPost_ret (box_results rfl _ (((H2'.out.set 0 _).set 1 _).set 2 _) rfl Tryd.underlying26 rfl rfl) rfl ?_
        exact ⟨rfl, ((HB1.out.setCell (by simp; omega) _).setCell (by simp; omega) _).setCell (by simp; omega) _⟩
#print axioms best_any
end Go.Proofs.YtdnkclbheimlcaaDoor
