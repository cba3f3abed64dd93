/-
  What is known of two rows, merged, by the document: walked (written by genL.py).
-/
import Derived.Test.YtdnkclbheimlcaaDoorStKa
import Derived.Deep.DeepCutAuto
namespace Go.Proofs.YtdnkclbheimlcaaDoor
open Go.RowKit
set_option linter.unusedVariables false

theorem best_neg (a b : va.Val) (x : Int) (hx : va.cmpV b a = x) (d : Bool) (hd : (a.nul || (!b.nul && decide (x < 0))) = d) : st.best (-1) a b = ⟨bif d then b.nul else a.nul, bif d then b.n else a.n, bif d then b.s else a.s⟩ := by
  unfold st.best
  rw [hx]
  subst hd
  have e : decide (0 < -1 * x) = decide (x < 0) := by rw [decide_eq_decide]; omega
  rw [e]
  obtain ⟨an, ai, as_⟩ := a
  obtain ⟨bn, bi, bs⟩ := b
  clear hx e
  cases an <;> cases bn <;> cases decide (x < 0) <;> rfl
theorem best_pos (a b : va.Val) (x : Int) (hx : va.cmpV b a = x) (d : Bool) (hd : (a.nul || (!b.nul && decide (0 < x))) = d) : st.best 1 a b = ⟨bif d then b.nul else a.nul, bif d then b.n else a.n, bif d then b.s else a.s⟩ := by
  unfold st.best
  rw [hx]
  subst hd
  rw [Int.one_mul]
  obtain ⟨an, ai, as_⟩ := a
  obtain ⟨bn, bi, bs⟩ := b
  clear hx
  cases an <;> cases bn <;> cases decide (0 < x) <;> rfl
/-- Where the document's Merge stands: the two, the result's variable, m. -/
def RM (w : World) (g : Nat) (A B M : Array Value) (X : World) : Prop := w.heap.size + 3 ≤ g ∧ Box X w.heap.size A 28 ∧ Box X (w.heap.size + 1) B 28 ∧ Box X (w.heap.size + 1 + 1) (st.cells stz) 28 ∧ Box X g M 28 ∧ Below w.heap.size w X
theorem RM.below {w X X' : World} {g : Nat} {A B M : Array Value} (h : RM w g A B M X) (hb : Below X.heap.size X X') : RM w g A B M X' :=
  ⟨h.1, h.2.1.below hb h.2.1.lt, h.2.2.1.below hb h.2.2.1.lt, h.2.2.2.1.below hb h.2.2.2.1.lt, h.2.2.2.2.1.below hb h.2.2.2.2.1.lt, h.2.2.2.2.2.trans (Below.mono hb h.2.2.2.2.2.size)⟩
theorem RM.set {w X : World} {g : Nat} {A B M : Array Value} (h : RM w g A B M X) (i : Nat) (u : Value) : RM w g A B (M.setIfInBounds i u) (X.setCell ⟨g, i, none⟩ u) := by
  have hg := h.1
  exact ⟨h.1, h.2.1.other (by simp; omega) _, h.2.2.1.other (by simp; omega) _, h.2.2.2.1.other (by simp; omega) _, h.2.2.2.2.1.set i u, h.2.2.2.2.2.setCell (by simp; omega) _⟩

set_option maxRecDepth 100000 in
set_option maxHeartbeats 4000000 in
theorem refmerge_any (w : World) (k : Int) (a b : st.St) (hc : -1000000000 ≤ a.c ∧ a.c ≤ 1000000000 ∧ -1000000000 ≤ b.c ∧ b.c ≤ 1000000000) (ha : st.In a.sum) (hb : st.In b.sum) :
    Calls Tryd.prog 15 #[.int .i64 k, .agg (st.cells a), .agg (st.cells b)] w fun e w' => e = .returned (.agg (st.cells (st.merge k a b))) ∧ Below w.heap.size w w' := by
  obtain ⟨nb, hnb⟩ : ∃ b, decide (1 ≤ k ∧ k ≤ 5) = b := ⟨_, rfl⟩
  have hnum := hide (fun (w : World) => hnb ▸ refnumber_any w k)
  have HNB := hide hnb
  clear hnb
  have hsum := hide (fun (w : World) (A : Option Addr) (c : Nat) (hr : Row w w.heap.size A (nis [a.sum, b.sum])) => refsum_any w A 2 c [a.sum, b.sum] rfl (by omega) (by intro x hx; simp at hx; rcases hx with rfl | rfl <;> assumption) hr)
  have hc1 := hide (fun (w : World) => refcompare_any w b.mn a.mn)
  have hc2 := hide (fun (w : World) => refcompare_any w b.mx a.mx)
  obtain ⟨S, hS⟩ : ∃ S, st.merge k a b = S := ⟨_, rfl⟩
  have HMG := hide (show S = st.summed k (st.merged a b) (a.sum + b.sum) from hS.symm)
  rw [hS]
  clear hS
  obtain ⟨x1, hx1⟩ : ∃ x, va.cmpV b.mn a.mn = x := ⟨_, rfl⟩
  obtain ⟨x2, hx2⟩ : ∃ x, va.cmpV b.mx a.mx = x := ⟨_, rfl⟩
  obtain ⟨⟨sm, so⟩, hso⟩ : ∃ p, st.sumOf (a.sum + b.sum) = p := ⟨_, rfl⟩
  rw [hx1] at hc1
  rw [hx2] at hc2
  rw [show [a.sum, b.sum].sum = a.sum + b.sum by simp, hso] at hsum
  have HX1 := hide hx1
  have HX2 := hide hx2
  have HSO := hide hso
  clear hx1 hx2 hso ha hb
  obtain ⟨c, hn, ⟨mn, mi, ms⟩, ⟨xn, xi, xs⟩, su, ov⟩ := a
  obtain ⟨c', hn', ⟨mn', mi', ms'⟩, ⟨xn', xi', xs'⟩, su', ov'⟩ := b
  simp only [st.cells] at hc1 hc2 hsum hc ⊢
  have hcw : IntKind.i64.wrap (c + c') = c + c' := by rw [IntKind.wrap_i64]; omega
  clear hc
  obtain ⟨W, hW, h0, h1, h2, hbb, hz⟩ := box3 w #[.int .i64 c, .bool hn, .bool mn, .int .i64 mi, .string ms, .bool xn, .int .i64 xi, .string xs, .int .i64 su, .bool ov] #[.int .i64 c', .bool hn', .bool mn', .int .i64 mi', .string ms', .bool xn', .int .i64 xi', .string xs', .int .i64 su', .bool ov'] (st.cells stz) 28 28 28
  have hW' : ((w.alloc (.cells #[.int .i64 c, .bool hn, .bool mn, .int .i64 mi, .string ms, .bool xn, .int .i64 xi, .string xs, .int .i64 su, .bool ov] 28)).alloc (.cells #[.int .i64 c', .bool hn', .bool mn', .int .i64 mi', .string ms', .bool xn', .int .i64 xi', .string xs', .int .i64 su', .bool ov'] 28)).alloc (.cells #[.int .i64 0, .bool false, .bool false, .int .i64 0, .string ⟨#[]⟩, .bool false, .int .i64 0, .string ⟨#[]⟩, .int .i64 0, .bool false] 28) = W := hW
  have HW := hide hW'
  have H0 := hide h0
  have H1 := hide h1
  have H2 := hide h2
  have HB := hide hbb
  have HZ := hide hz
  clear hW hW' h0 h1 h2 hbb hz
  go_enter Tryd.func15, Tryd.ntmps15
  go_upto_region 1 with fail
  rw [HW.out]
  obtain ⟨g, hg⟩ : ∃ g, W.heap.size = g := ⟨_, rfl⟩
  go_cut [7] (fun s7 wx => s7 = .pointer (some ⟨g, 0, none⟩) ∧ RM w g #[.int .i64 c, .bool hn, .bool mn, .int .i64 mi, .string ms, .bool xn, .int .i64 xi, .string xs, .int .i64 su, .bool ov] #[.int .i64 c', .bool hn', .bool mn', .int .i64 mi', .string ms', .bool xn', .int .i64 xi', .string xs', .int .i64 su', .bool ov'] #[.int .i64 (c + c'), .bool (hn || hn'), .bool mn, .int .i64 mi, .string ms, .bool xn, .int .i64 xi, .string xs, .int .i64 0, .bool (ov || ov')] wx)
  case first =>
    have a0 := H0.out.cell 0 (.int .i64 c) rfl
    have a1 := H0.out.cell 1 (.bool hn) rfl
    have a2 := H0.out.cell 2 (.bool mn) rfl
    have a3 := H0.out.cell 3 (.int .i64 mi) rfl
    have a4 := H0.out.cell 4 (.string ms) rfl
    have a5 := H0.out.cell 5 (.bool xn) rfl
    have a6 := H0.out.cell 6 (.int .i64 xi) rfl
    have a7 := H0.out.cell 7 (.string xs) rfl
    have a8 := H0.out.cell 8 (.int .i64 su) rfl
    have a9 := H0.out.cell 9 (.bool ov) rfl
    have b0 := H1.out.cell 0 (.int .i64 c') rfl
    have b1 := H1.out.cell 1 (.bool hn') rfl
    have b2 := H1.out.cell 2 (.bool mn') rfl
    have b3 := H1.out.cell 3 (.int .i64 mi') rfl
    have b4 := H1.out.cell 4 (.string ms') rfl
    have b5 := H1.out.cell 5 (.bool xn') rfl
    have b6 := H1.out.cell 6 (.int .i64 xi') rfl
    have b7 := H1.out.cell 7 (.string xs') rfl
    have b8 := H1.out.cell 8 (.int .i64 su') rfl
    have b9 := H1.out.cell 9 (.bool ov') rfl
    have HG := hide hg
    clear hg
    cases hn <;> cases ov
    all_goals
      go_wp2_with (refine wpList_store_row rfl 28 _ _ rfl W.heap.size _ rfl rfl 28 _ (box_new _ _ _) (by kernel_rfl) rfl (cells_one ⟨c + c', _, ⟨mn, mi, ms⟩, ⟨xn, xi, xs⟩, 0, _⟩) ?_)
      go_meet
      have hz := HZ.out
      have hg := HG.out
      refine ⟨by rw [hg], by omega, ?_, ?_, ?_, ?_, ?_⟩
      · exact (setRow_other _ _ _ _ (by omega)).trans (H0.out.alloc _)
      · exact (setRow_other _ _ _ _ (by omega)).trans (H1.out.alloc _)
      · exact (setRow_other _ _ _ _ (by omega)).trans (H2.out.alloc _)
      · rw [← hg]; exact setRow_heap _ _ _ _ _ _ (box_new _ _ _)
      · exact below_setRow (HB.out.alloc (by omega) _) (by omega) _
  case rest =>
    obtain ⟨rfl, HR'⟩ := hcut
    have HR := hide HR'
    clear HR' H0 H1 H2 HB HZ HW hg W
    have hr := HR.out
    have a0 := hr.2.1.cell 0 (.int .i64 c) rfl
    have a1 := hr.2.1.cell 1 (.bool hn) rfl
    have a2 := hr.2.1.cell 2 (.bool mn) rfl
    have a3 := hr.2.1.cell 3 (.int .i64 mi) rfl
    have a4 := hr.2.1.cell 4 (.string ms) rfl
    have a5 := hr.2.1.cell 5 (.bool xn) rfl
    have a6 := hr.2.1.cell 6 (.int .i64 xi) rfl
    have a7 := hr.2.1.cell 7 (.string xs) rfl
    have a8 := hr.2.1.cell 8 (.int .i64 su) rfl
    have a9 := hr.2.1.cell 9 (.bool ov) rfl
    have b0 := hr.2.2.1.cell 0 (.int .i64 c') rfl
    have b1 := hr.2.2.1.cell 1 (.bool hn') rfl
    have b2 := hr.2.2.1.cell 2 (.bool mn') rfl
    have b3 := hr.2.2.1.cell 3 (.int .i64 mi') rfl
    have b4 := hr.2.2.1.cell 4 (.string ms') rfl
    have b5 := hr.2.2.1.cell 5 (.bool xn') rfl
    have b6 := hr.2.2.1.cell 6 (.int .i64 xi') rfl
    have b7 := hr.2.2.1.cell 7 (.string xs') rfl
    have b8 := hr.2.2.1.cell 8 (.int .i64 su') rfl
    have b9 := hr.2.2.1.cell 9 (.bool ov') rfl
    have m0 := hr.2.2.2.2.1.cell 0 (.int .i64 (c + c')) rfl
    have m1 := hr.2.2.2.2.1.cell 1 (.bool (hn || hn')) rfl
    have m2 := hr.2.2.2.2.1.cell 2 (.bool mn) rfl
    have m3 := hr.2.2.2.2.1.cell 3 (.int .i64 mi) rfl
    have m4 := hr.2.2.2.2.1.cell 4 (.string ms) rfl
    have m5 := hr.2.2.2.2.1.cell 5 (.bool xn) rfl
    have m6 := hr.2.2.2.2.1.cell 6 (.int .i64 xi) rfl
    have m7 := hr.2.2.2.2.1.cell 7 (.string xs) rfl
    have m8 := hr.2.2.2.2.1.cell 8 (.int .i64 0) rfl
    have m9 := hr.2.2.2.2.1.cell 9 (.bool (ov || ov')) rfl
    have hgl := hr.1
    clear hr
    go_upto_region 2 with fail
    go_cut [49] (fun s49 wx => s49 = .bool (mn || (!mn' && decide (x1 < 0))) ∧ RM w g #[.int .i64 c, .bool hn, .bool mn, .int .i64 mi, .string ms, .bool xn, .int .i64 xi, .string xs, .int .i64 su, .bool ov] #[.int .i64 c', .bool hn', .bool mn', .int .i64 mi', .string ms', .bool xn', .int .i64 xi', .string xs', .int .i64 su', .bool ov'] #[.int .i64 (c + c'), .bool (hn || hn'), .bool mn, .int .i64 mi, .string ms, .bool xn, .int .i64 xi, .string xs, .int .i64 0, .bool (ov || ov')] wx)
    case first =>
      cases mn
      · cases mn'
        · go_wp2_with fail
          refine (hc1.out wc).mono ?_
          rintro e w1 ⟨rfl, hb1⟩
          have HR1 := hide (HR.out.below hb1)
          clear hb1
          go_wp2_with fail
          go_meet
          exact ⟨rfl, HR1.out⟩
        · go_wp2_with fail
          go_meet
          exact ⟨rfl, HR.out⟩
      · go_wp2_with fail
        go_meet
        exact ⟨rfl, HR.out⟩
    case rest =>
      clear a0 a1 a2 a3 a4 a5 a6 a7 a8 a9 b0 b1 b2 b3 b4 b5 b6 b7 b8 b9 m0 m1 m2 m3 m4 m5 m6 m7 m8 m9 hgl HR
      obtain ⟨rfl, HR'⟩ := hcut
      have HR := hide HR'
      clear HR'
      have hr := HR.out
      have a0 := hr.2.1.cell 0 (.int .i64 c) rfl
      have a1 := hr.2.1.cell 1 (.bool hn) rfl
      have a2 := hr.2.1.cell 2 (.bool mn) rfl
      have a3 := hr.2.1.cell 3 (.int .i64 mi) rfl
      have a4 := hr.2.1.cell 4 (.string ms) rfl
      have a5 := hr.2.1.cell 5 (.bool xn) rfl
      have a6 := hr.2.1.cell 6 (.int .i64 xi) rfl
      have a7 := hr.2.1.cell 7 (.string xs) rfl
      have a8 := hr.2.1.cell 8 (.int .i64 su) rfl
      have a9 := hr.2.1.cell 9 (.bool ov) rfl
      have b0 := hr.2.2.1.cell 0 (.int .i64 c') rfl
      have b1 := hr.2.2.1.cell 1 (.bool hn') rfl
      have b2 := hr.2.2.1.cell 2 (.bool mn') rfl
      have b3 := hr.2.2.1.cell 3 (.int .i64 mi') rfl
      have b4 := hr.2.2.1.cell 4 (.string ms') rfl
      have b5 := hr.2.2.1.cell 5 (.bool xn') rfl
      have b6 := hr.2.2.1.cell 6 (.int .i64 xi') rfl
      have b7 := hr.2.2.1.cell 7 (.string xs') rfl
      have b8 := hr.2.2.1.cell 8 (.int .i64 su') rfl
      have b9 := hr.2.2.1.cell 9 (.bool ov') rfl
      have m0 := hr.2.2.2.2.1.cell 0 (.int .i64 (c + c')) rfl
      have m1 := hr.2.2.2.2.1.cell 1 (.bool (hn || hn')) rfl
      have m2 := hr.2.2.2.2.1.cell 2 (.bool mn) rfl
      have m3 := hr.2.2.2.2.1.cell 3 (.int .i64 mi) rfl
      have m4 := hr.2.2.2.2.1.cell 4 (.string ms) rfl
      have m5 := hr.2.2.2.2.1.cell 5 (.bool xn) rfl
      have m6 := hr.2.2.2.2.1.cell 6 (.int .i64 xi) rfl
      have m7 := hr.2.2.2.2.1.cell 7 (.string xs) rfl
      have m8 := hr.2.2.2.2.1.cell 8 (.int .i64 0) rfl
      have m9 := hr.2.2.2.2.1.cell 9 (.bool (ov || ov')) rfl
      have f2 := hr.2.2.2.2.1.frozen 2
      have f3 := hr.2.2.2.2.1.frozen 3
      have f4 := hr.2.2.2.2.1.frozen 4
      have hgl := hr.1
      clear hr
      obtain ⟨d1, hd1⟩ : ∃ d, (mn || (!mn' && decide (x1 < 0))) = d := ⟨_, rfl⟩
      rw [hd1]
      have HD1 := hide hd1
      clear hd1
      go_upto_if 49 with fail
      go_cut [] (fun wx => RM w g #[.int .i64 c, .bool hn, .bool mn, .int .i64 mi, .string ms, .bool xn, .int .i64 xi, .string xs, .int .i64 su, .bool ov] #[.int .i64 c', .bool hn', .bool mn', .int .i64 mi', .string ms', .bool xn', .int .i64 xi', .string xs', .int .i64 su', .bool ov'] #[.int .i64 (c + c'), .bool (hn || hn'), .bool (bif d1 then mn' else mn), .int .i64 (bif d1 then mi' else mi), .string (bif d1 then ms' else ms), .bool xn, .int .i64 xi, .string xs, .int .i64 0, .bool (ov || ov')] wx)
      case first =>
        cases d1
        · go_wp2_with fail
          go_meet
          exact HR.out
        · go_wp2_with fail
          go_meet
          exact ((HR.out.set 2 _).set 3 _).set 4 _
      case rest =>
        clear a0 a1 a2 a3 a4 a5 a6 a7 a8 a9 b0 b1 b2 b3 b4 b5 b6 b7 b8 b9 m0 m1 m2 m3 m4 m5 m6 m7 m8 m9 hgl f2 f3 f4 HR
        obtain ⟨q1, hq1⟩ : ∃ x, (bif d1 then mn' else mn) = x := ⟨_, rfl⟩
        obtain ⟨i1, hi1⟩ : ∃ x, (bif d1 then mi' else mi) = x := ⟨_, rfl⟩
        obtain ⟨s1, hs1⟩ : ∃ x, (bif d1 then ms' else ms) = x := ⟨_, rfl⟩
        rw [hq1, hi1, hs1] at hcut
        have HBE1 := hide (show st.best (-1) ⟨mn, mi, ms⟩ ⟨mn', mi', ms'⟩ = ⟨q1, i1, s1⟩ by rw [best_neg _ _ _ HX1.out d1 HD1.out]; simp only [hq1, hi1, hs1])
        clear hq1 hi1 hs1 HX1 HD1
        have HR' := hcut
        clear hcut
        have HR := hide HR'
        clear HR'
        have hr := HR.out
        have a0 := hr.2.1.cell 0 (.int .i64 c) rfl
        have a1 := hr.2.1.cell 1 (.bool hn) rfl
        have a2 := hr.2.1.cell 2 (.bool mn) rfl
        have a3 := hr.2.1.cell 3 (.int .i64 mi) rfl
        have a4 := hr.2.1.cell 4 (.string ms) rfl
        have a5 := hr.2.1.cell 5 (.bool xn) rfl
        have a6 := hr.2.1.cell 6 (.int .i64 xi) rfl
        have a7 := hr.2.1.cell 7 (.string xs) rfl
        have a8 := hr.2.1.cell 8 (.int .i64 su) rfl
        have a9 := hr.2.1.cell 9 (.bool ov) rfl
        have b0 := hr.2.2.1.cell 0 (.int .i64 c') rfl
        have b1 := hr.2.2.1.cell 1 (.bool hn') rfl
        have b2 := hr.2.2.1.cell 2 (.bool mn') rfl
        have b3 := hr.2.2.1.cell 3 (.int .i64 mi') rfl
        have b4 := hr.2.2.1.cell 4 (.string ms') rfl
        have b5 := hr.2.2.1.cell 5 (.bool xn') rfl
        have b6 := hr.2.2.1.cell 6 (.int .i64 xi') rfl
        have b7 := hr.2.2.1.cell 7 (.string xs') rfl
        have b8 := hr.2.2.1.cell 8 (.int .i64 su') rfl
        have b9 := hr.2.2.1.cell 9 (.bool ov') rfl
        have m0 := hr.2.2.2.2.1.cell 0 (.int .i64 (c + c')) rfl
        have m1 := hr.2.2.2.2.1.cell 1 (.bool (hn || hn')) rfl
        have m2 := hr.2.2.2.2.1.cell 2 (.bool q1) rfl
        have m3 := hr.2.2.2.2.1.cell 3 (.int .i64 i1) rfl
        have m4 := hr.2.2.2.2.1.cell 4 (.string s1) rfl
        have m5 := hr.2.2.2.2.1.cell 5 (.bool xn) rfl
        have m6 := hr.2.2.2.2.1.cell 6 (.int .i64 xi) rfl
        have m7 := hr.2.2.2.2.1.cell 7 (.string xs) rfl
        have m8 := hr.2.2.2.2.1.cell 8 (.int .i64 0) rfl
        have m9 := hr.2.2.2.2.1.cell 9 (.bool (ov || ov')) rfl
        have hgl := hr.1
        clear hr
        go_upto_region 4 with fail
        go_cut [69] (fun s69 wx => s69 = .bool (xn || (!xn' && decide (0 < x2))) ∧ RM w g #[.int .i64 c, .bool hn, .bool mn, .int .i64 mi, .string ms, .bool xn, .int .i64 xi, .string xs, .int .i64 su, .bool ov] #[.int .i64 c', .bool hn', .bool mn', .int .i64 mi', .string ms', .bool xn', .int .i64 xi', .string xs', .int .i64 su', .bool ov'] #[.int .i64 (c + c'), .bool (hn || hn'), .bool q1, .int .i64 i1, .string s1, .bool xn, .int .i64 xi, .string xs, .int .i64 0, .bool (ov || ov')] wx)
        case first =>
          cases xn
          · cases xn'
            · go_wp2_with fail
              refine (hc2.out wc).mono ?_
              rintro e w1 ⟨rfl, hb1⟩
              have HR1 := hide (HR.out.below hb1)
              clear hb1
              go_wp2_with fail
              go_meet
              exact ⟨rfl, HR1.out⟩
            · go_wp2_with fail
              go_meet
              exact ⟨rfl, HR.out⟩
          · go_wp2_with fail
            go_meet
            exact ⟨rfl, HR.out⟩
        case rest =>
          clear a0 a1 a2 a3 a4 a5 a6 a7 a8 a9 b0 b1 b2 b3 b4 b5 b6 b7 b8 b9 m0 m1 m2 m3 m4 m5 m6 m7 m8 m9 hgl HR
          obtain ⟨rfl, HR'⟩ := hcut
          have HR := hide HR'
          clear HR'
          have hr := HR.out
          have a0 := hr.2.1.cell 0 (.int .i64 c) rfl
          have a1 := hr.2.1.cell 1 (.bool hn) rfl
          have a2 := hr.2.1.cell 2 (.bool mn) rfl
          have a3 := hr.2.1.cell 3 (.int .i64 mi) rfl
          have a4 := hr.2.1.cell 4 (.string ms) rfl
          have a5 := hr.2.1.cell 5 (.bool xn) rfl
          have a6 := hr.2.1.cell 6 (.int .i64 xi) rfl
          have a7 := hr.2.1.cell 7 (.string xs) rfl
          have a8 := hr.2.1.cell 8 (.int .i64 su) rfl
          have a9 := hr.2.1.cell 9 (.bool ov) rfl
          have b0 := hr.2.2.1.cell 0 (.int .i64 c') rfl
          have b1 := hr.2.2.1.cell 1 (.bool hn') rfl
          have b2 := hr.2.2.1.cell 2 (.bool mn') rfl
          have b3 := hr.2.2.1.cell 3 (.int .i64 mi') rfl
          have b4 := hr.2.2.1.cell 4 (.string ms') rfl
          have b5 := hr.2.2.1.cell 5 (.bool xn') rfl
          have b6 := hr.2.2.1.cell 6 (.int .i64 xi') rfl
          have b7 := hr.2.2.1.cell 7 (.string xs') rfl
          have b8 := hr.2.2.1.cell 8 (.int .i64 su') rfl
          have b9 := hr.2.2.1.cell 9 (.bool ov') rfl
          have m0 := hr.2.2.2.2.1.cell 0 (.int .i64 (c + c')) rfl
          have m1 := hr.2.2.2.2.1.cell 1 (.bool (hn || hn')) rfl
          have m2 := hr.2.2.2.2.1.cell 2 (.bool q1) rfl
          have m3 := hr.2.2.2.2.1.cell 3 (.int .i64 i1) rfl
          have m4 := hr.2.2.2.2.1.cell 4 (.string s1) rfl
          have m5 := hr.2.2.2.2.1.cell 5 (.bool xn) rfl
          have m6 := hr.2.2.2.2.1.cell 6 (.int .i64 xi) rfl
          have m7 := hr.2.2.2.2.1.cell 7 (.string xs) rfl
          have m8 := hr.2.2.2.2.1.cell 8 (.int .i64 0) rfl
          have m9 := hr.2.2.2.2.1.cell 9 (.bool (ov || ov')) rfl
          have f5 := hr.2.2.2.2.1.frozen 5
          have f6 := hr.2.2.2.2.1.frozen 6
          have f7 := hr.2.2.2.2.1.frozen 7
          have hgl := hr.1
          clear hr
          obtain ⟨d2, hd2⟩ : ∃ d, (xn || (!xn' && decide (0 < x2))) = d := ⟨_, rfl⟩
          rw [hd2]
          have HD2 := hide hd2
          clear hd2
          go_upto_if 69 with fail
          go_cut [] (fun wx => RM w g #[.int .i64 c, .bool hn, .bool mn, .int .i64 mi, .string ms, .bool xn, .int .i64 xi, .string xs, .int .i64 su, .bool ov] #[.int .i64 c', .bool hn', .bool mn', .int .i64 mi', .string ms', .bool xn', .int .i64 xi', .string xs', .int .i64 su', .bool ov'] #[.int .i64 (c + c'), .bool (hn || hn'), .bool q1, .int .i64 i1, .string s1, .bool (bif d2 then xn' else xn), .int .i64 (bif d2 then xi' else xi), .string (bif d2 then xs' else xs), .int .i64 0, .bool (ov || ov')] wx)
          case first =>
            cases d2
            · go_wp2_with fail
              go_meet
              exact HR.out
            · go_wp2_with fail
              go_meet
              exact ((HR.out.set 5 _).set 6 _).set 7 _
          case rest =>
            clear a0 a1 a2 a3 a4 a5 a6 a7 a8 a9 b0 b1 b2 b3 b4 b5 b6 b7 b8 b9 m0 m1 m2 m3 m4 m5 m6 m7 m8 m9 hgl f5 f6 f7 HR
            obtain ⟨q2, hq2⟩ : ∃ x, (bif d2 then xn' else xn) = x := ⟨_, rfl⟩
            obtain ⟨i2, hi2⟩ : ∃ x, (bif d2 then xi' else xi) = x := ⟨_, rfl⟩
            obtain ⟨s2, hs2⟩ : ∃ x, (bif d2 then xs' else xs) = x := ⟨_, rfl⟩
            rw [hq2, hi2, hs2] at hcut
            have HBE2 := hide (show st.best 1 ⟨xn, xi, xs⟩ ⟨xn', xi', xs'⟩ = ⟨q2, i2, s2⟩ by rw [best_pos _ _ _ HX2.out d2 HD2.out]; simp only [hq2, hi2, hs2])
            clear hq2 hi2 hs2 HX2 HD2
            obtain ⟨o, ho⟩ : ∃ o, (ov || ov') = o := ⟨_, rfl⟩
            rw [ho] at hcut
            have HS := hide (show S = st.summed k ⟨c + c', hn || hn', ⟨q1, i1, s1⟩, ⟨q2, i2, s2⟩, 0, o⟩ (su + su') by rw [HMG.out]; unfold st.merged; simp only [HBE1.out, HBE2.out, ho])
            clear ho HMG HBE1 HBE2
            have HR' := hcut
            clear hcut
            have HR := hide HR'
            clear HR'
            have hr := HR.out
            have a0 := hr.2.1.cell 0 (.int .i64 c) rfl
            have a1 := hr.2.1.cell 1 (.bool hn) rfl
            have a2 := hr.2.1.cell 2 (.bool mn) rfl
            have a3 := hr.2.1.cell 3 (.int .i64 mi) rfl
            have a4 := hr.2.1.cell 4 (.string ms) rfl
            have a5 := hr.2.1.cell 5 (.bool xn) rfl
            have a6 := hr.2.1.cell 6 (.int .i64 xi) rfl
            have a7 := hr.2.1.cell 7 (.string xs) rfl
            have a8 := hr.2.1.cell 8 (.int .i64 su) rfl
            have a9 := hr.2.1.cell 9 (.bool ov) rfl
            have b0 := hr.2.2.1.cell 0 (.int .i64 c') rfl
            have b1 := hr.2.2.1.cell 1 (.bool hn') rfl
            have b2 := hr.2.2.1.cell 2 (.bool mn') rfl
            have b3 := hr.2.2.1.cell 3 (.int .i64 mi') rfl
            have b4 := hr.2.2.1.cell 4 (.string ms') rfl
            have b5 := hr.2.2.1.cell 5 (.bool xn') rfl
            have b6 := hr.2.2.1.cell 6 (.int .i64 xi') rfl
            have b7 := hr.2.2.1.cell 7 (.string xs') rfl
            have b8 := hr.2.2.1.cell 8 (.int .i64 su') rfl
            have b9 := hr.2.2.1.cell 9 (.bool ov') rfl
            have m0 := hr.2.2.2.2.1.cell 0 (.int .i64 (c + c')) rfl
            have m1 := hr.2.2.2.2.1.cell 1 (.bool (hn || hn')) rfl
            have m2 := hr.2.2.2.2.1.cell 2 (.bool q1) rfl
            have m3 := hr.2.2.2.2.1.cell 3 (.int .i64 i1) rfl
            have m4 := hr.2.2.2.2.1.cell 4 (.string s1) rfl
            have m5 := hr.2.2.2.2.1.cell 5 (.bool q2) rfl
            have m6 := hr.2.2.2.2.1.cell 6 (.int .i64 i2) rfl
            have m7 := hr.2.2.2.2.1.cell 7 (.string s2) rfl
            have m8 := hr.2.2.2.2.1.cell 8 (.int .i64 0) rfl
            have m9 := hr.2.2.2.2.1.cell 9 (.bool o) rfl
            have f8 := hr.2.2.2.2.1.frozen 8
            have f9 := hr.2.2.2.2.1.frozen 9
            have hgl := hr.1
            clear hr
            go_wp2_with fail
            refine (hnum.out wc).mono ?_
            rintro e w1 ⟨rfl, rfl⟩
            cases nb
            · go_wp2_with (refine wpList_store_row rfl 28 _ _ rfl (w.heap.size + 1 + 1) #[.int .i64 (c + c'), .bool (hn || hn'), .bool q1, .int .i64 i1, .string s1, .bool q2, .int .i64 i2, .string s2, .int .i64 0, .bool o] rfl rfl 28 _ HR.out.2.2.2.1 (by kernel_rfl) rfl (cells_one ⟨c + c', hn || hn', ⟨q1, i1, s1⟩, ⟨q2, i2, s2⟩, 0, o⟩) ?_)
              refine bodyPost_ret (box_results rfl _ (setRow_heap _ _ _ _ _ _ HR.out.2.2.2.1) rfl Tryd.underlying28 rfl rfl) rfl ?_
              have hgl' := HR.out.1
              refine ⟨?_, below_setRow HR.out.2.2.2.2.2 (by omega) _⟩
              rw [show S = _ from HS.out]
              unfold st.summed st.num
              rw [HNB.out]
              rfl
            · cases o
              · go_wp2_with fail
                obtain ⟨X, hX⟩ : ∃ X, wc.alloc (.cells #[.int .i64 su, .int .i64 su'] 3) = X := ⟨_, rfl⟩
                have hr3 : Row X X.heap.size (some ⟨wc.heap.size, 0, none⟩) (nis [su, su']) := by rw [← hX]; exact (row_new wc #[.int .i64 su, .int .i64 su'] _ (0, 0)).more (by simp)
                have HRX := hide (show RM w g #[.int .i64 c, .bool hn, .bool mn, .int .i64 mi, .string ms, .bool xn, .int .i64 xi, .string xs, .int .i64 su, .bool ov] #[.int .i64 c', .bool hn', .bool mn', .int .i64 mi', .string ms', .bool xn', .int .i64 xi', .string xs', .int .i64 su', .bool ov'] #[.int .i64 (c + c'), .bool (hn || hn'), .bool q1, .int .i64 i1, .string s1, .bool q2, .int .i64 i2, .string s2, .int .i64 0, .bool false] X from by rw [← hX]; exact HR.out.below ((Below.refl _ _).alloc (Nat.le_refl _) _))
                rw [hX]
                clear hX a0 a1 a2 a3 a4 a5 a6 a7 a8 a9 b0 b1 b2 b3 b4 b5 b6 b7 b8 b9 m0 m1 m2 m3 m4 m5 m6 m7 m8 m9 hgl f8 f9 HR
                refine (hsum.out X _ 2 hr3).mono ?_
                rintro e w1 ⟨rfl, rfl⟩
                clear hr3
                have HR := HRX
                have hr := HR.out
                have a0 := hr.2.1.cell 0 (.int .i64 c) rfl
                have a1 := hr.2.1.cell 1 (.bool hn) rfl
                have a2 := hr.2.1.cell 2 (.bool mn) rfl
                have a3 := hr.2.1.cell 3 (.int .i64 mi) rfl
                have a4 := hr.2.1.cell 4 (.string ms) rfl
                have a5 := hr.2.1.cell 5 (.bool xn) rfl
                have a6 := hr.2.1.cell 6 (.int .i64 xi) rfl
                have a7 := hr.2.1.cell 7 (.string xs) rfl
                have a8 := hr.2.1.cell 8 (.int .i64 su) rfl
                have a9 := hr.2.1.cell 9 (.bool ov) rfl
                have b0 := hr.2.2.1.cell 0 (.int .i64 c') rfl
                have b1 := hr.2.2.1.cell 1 (.bool hn') rfl
                have b2 := hr.2.2.1.cell 2 (.bool mn') rfl
                have b3 := hr.2.2.1.cell 3 (.int .i64 mi') rfl
                have b4 := hr.2.2.1.cell 4 (.string ms') rfl
                have b5 := hr.2.2.1.cell 5 (.bool xn') rfl
                have b6 := hr.2.2.1.cell 6 (.int .i64 xi') rfl
                have b7 := hr.2.2.1.cell 7 (.string xs') rfl
                have b8 := hr.2.2.1.cell 8 (.int .i64 su') rfl
                have b9 := hr.2.2.1.cell 9 (.bool ov') rfl
                have m0 := hr.2.2.2.2.1.cell 0 (.int .i64 (c + c')) rfl
                have m1 := hr.2.2.2.2.1.cell 1 (.bool (hn || hn')) rfl
                have m2 := hr.2.2.2.2.1.cell 2 (.bool q1) rfl
                have m3 := hr.2.2.2.2.1.cell 3 (.int .i64 i1) rfl
                have m4 := hr.2.2.2.2.1.cell 4 (.string s1) rfl
                have m5 := hr.2.2.2.2.1.cell 5 (.bool q2) rfl
                have m6 := hr.2.2.2.2.1.cell 6 (.int .i64 i2) rfl
                have m7 := hr.2.2.2.2.1.cell 7 (.string s2) rfl
                have m8 := hr.2.2.2.2.1.cell 8 (.int .i64 0) rfl
                have m9 := hr.2.2.2.2.1.cell 9 (.bool false) rfl
                have f8 := hr.2.2.2.2.1.frozen 8
                have f9 := hr.2.2.2.2.1.frozen 9
                have hgl := hr.1
                clear hr
                have hov : (!!so) = so := Bool.not_not so
                go_wp2_with (refine wpList_store_row rfl 28 _ _ rfl (w.heap.size + 1 + 1) #[.int .i64 (c + c'), .bool (hn || hn'), .bool q1, .int .i64 i1, .string s1, .bool q2, .int .i64 i2, .string s2, .int .i64 sm, .bool so] rfl rfl 28 _ ((HRX.out.set 8 _).set 9 _).2.2.2.1 (by kernel_rfl) rfl (cells_one ⟨c + c', hn || hn', ⟨q1, i1, s1⟩, ⟨q2, i2, s2⟩, sm, so⟩) ?_)
                refine bodyPost_ret (box_results rfl _ (setRow_heap _ _ _ _ _ _ ((HRX.out.set 8 _).set 9 _).2.2.2.1) rfl Tryd.underlying28 rfl rfl) rfl ?_
                have hgl' := HR.out.1
                refine ⟨?_, below_setRow ((HRX.out.set 8 _).set 9 _).2.2.2.2.2 (by omega) _⟩
                rw [show S = _ from HS.out]
                unfold st.summed st.num
                rw [HNB.out]
                rw [HSO.out]
                rfl
              · go_wp2_with (refine wpList_store_row rfl 28 _ _ rfl (w.heap.size + 1 + 1) #[.int .i64 (c + c'), .bool (hn || hn'), .bool q1, .int .i64 i1, .string s1, .bool q2, .int .i64 i2, .string s2, .int .i64 0, .bool true] rfl rfl 28 _ HR.out.2.2.2.1 (by kernel_rfl) rfl (cells_one ⟨c + c', hn || hn', ⟨q1, i1, s1⟩, ⟨q2, i2, s2⟩, 0, true⟩) ?_)
                refine bodyPost_ret (box_results rfl _ (setRow_heap _ _ _ _ _ _ HR.out.2.2.2.1) rfl Tryd.underlying28 rfl rfl) rfl ?_
                have hgl' := HR.out.1
                refine ⟨?_, below_setRow HR.out.2.2.2.2.2 (by omega) _⟩
                rw [show S = _ from HS.out]
                unfold st.summed st.num
                rw [HNB.out]
                rfl
#print axioms refmerge_any
end Go.Proofs.YtdnkclbheimlcaaDoor
