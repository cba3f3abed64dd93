/-
  What is known of values, walked: by the program.
-/
import Derived.Test.YtdnkclbheimlcaaDoorStC
namespace Go.Proofs.YtdnkclbheimlcaaDoor
open Go.RowKit
set_option linter.unusedVariables false

/-- Values, as cells. -/
def vcs (l : List va.Val) : List Value := l.flatMap fun v => [.bool v.nul, .int .i64 v.n, .string v.s]
theorem vcs_cons (v : va.Val) (l : List va.Val) : vcs (v :: l) = .bool v.nul :: .int .i64 v.n :: .string v.s :: vcs l := rfl
theorem vcs_at : ∀ {l : List va.Val} {k : Nat} {v : va.Val}, l[k]? = some v → (vcs l)[k * 3]? = some (.bool v.nul) ∧ (vcs l)[k * 3 + 1]? = some (.int .i64 v.n) ∧ (vcs l)[k * 3 + 2]? = some (.string v.s)
  | [], k, v, h => by simp at h
  | u :: l, 0, v, h => by simp at h; subst h; exact ⟨rfl, rfl, rfl⟩
  | u :: l, k + 1, v, h => by
    rw [vcs_cons, show (k + 1) * 3 = k * 3 + 1 + 1 + 1 by omega]
    simp only [List.getElem?_cons_succ] at h ⊢
    exact vcs_at h
theorem vcs_append (l m : List va.Val) : vcs (l ++ m) = vcs l ++ vcs m := by simp [vcs]
theorem row_at3 {w : World} {B : Nat} {A : Option Addr} {l : List va.Val} {k : Nat} {v : va.Val} (hr : Row w B A (vcs l)) (hk : l[k]? = some v) : ∃ b o, A = some ⟨b, o, none⟩ ∧ b < B ∧ w.cell? ⟨b, o + k * 3, none⟩ = some (.bool v.nul) ∧ w.cell? ⟨b, o + k * 3 + 1, none⟩ = some (.int .i64 v.n) ∧ w.cell? ⟨b, o + k * 3 + 2, none⟩ = some (.string v.s) := by
  obtain ⟨h0, h1, h2⟩ := vcs_at hk
  obtain ⟨b, o, rfl, hb, c0⟩ := hr.at_ h0
  obtain ⟨b', o', e, -, c1⟩ := hr.at_ h1
  injection e with e
  injection e with e1 e2 e3
  subst e1
  subst e2
  obtain ⟨b', o', e, -, c2⟩ := hr.at_ h2
  injection e with e
  injection e with e1 e2 e4
  subst e1
  subst e2
  exact ⟨b, o, rfl, hb, c0, c1, c2⟩

theorem box4 (w : World) (cs ds es fs : Array Value) (t u v y : TypeId) : ∃ W, (((w.alloc (.cells cs t)).alloc (.cells ds u)).alloc (.cells es v)).alloc (.cells fs y) = W ∧ Box W w.heap.size cs t ∧ Box W (w.heap.size + 1 + 1) es v ∧ Box W (w.heap.size + 1 + 1 + 1) fs y ∧ Below w.heap.size w W ∧ W.heap.size = w.heap.size + 4 := by
  obtain ⟨W0, hW0, h0, -, h2, hb, hz⟩ := box3 w cs ds es t u v
  rw [hW0]
  refine ⟨_, rfl, h0.alloc _, h2.alloc _, ?_, hb.alloc (by omega) _, by simp; omega⟩
  have h := box_new W0 fs y
  have e : W0.heap.size = w.heap.size + 1 + 1 + 1 := by omega
  rw [e] at h
  exact h
theorem ofAcc_nul {a : st.Acc} {v : va.Val} (h : v.nul = true) : st.ofAcc (st.step a v) = { st.ofAcc a with hn := true } := by rw [st.step_nul h]; rfl
theorem ofAcc_some {a : st.Acc} {v : va.Val} (h : v.nul = false) : st.ofAcc (st.step a v) = { st.ofAcc a with c := (st.ofAcc a).c + 1, mn := st.best (-1) (st.ofAcc a).mn v, mx := st.best 1 (st.ofAcc a).mx v } := by
  rw [st.step_some h, st.best_low h, st.best_high h]
  simp [st.ofAcc]
theorem acc_t {l : List va.Val} {n : Nat} (hl : l.length ≤ n) (hn : n ≤ 600) (h : ∀ v ∈ l, st.In v.n) : (-18889465931478580854784 ≤ (st.acc l).t ∧ (st.acc l).t ≤ 18889465931478580854784) ∧ (st.acc l).c ≤ 600 := by
  have := st.acc_in h
  omega

set_option maxRecDepth 100000 in
set_option maxHeartbeats 4000000 in
theorem of_any (w : World) (k : Int) (A : Option Addr) (n c : Nat) (l : List va.Val) (hl : l.length = n) (hn : n ≤ 600) (hin : ∀ v ∈ l, st.In v.n) (hr : Row w w.heap.size A (vcs l)) :
    Calls Tryd.prog 9 #[.int .i64 k, .slice A n c] w fun e w' => e = .returned (.agg (st.cells (st.of k l))) ∧ Below w.heap.size w w' := by
  have HL := hide hl
  have HIN := hide hin
  clear hl hin
  go_enter Tryd.func9, Tryd.ntmps9
  go_wp2_with fail
  obtain ⟨W, hW, h4, h6, h7, hb, hz⟩ := box4 w (st.cells stz) #[.bool true, .int .i64 0, .string ⟨#[]⟩] (st.cells (st.ofAcc st.start)) #[.int .i64 0, .int .u64 0] 28 26 28 39
  have hW' : (((w.alloc (.cells #[.int .i64 0, .bool false, .bool false, .int .i64 0, .string ⟨#[]⟩, .bool false, .int .i64 0, .string ⟨#[]⟩, .int .i64 0, .bool false] 28)).alloc (.cells #[.bool true, .int .i64 0, .string ⟨#[]⟩] 26)).alloc (.cells #[.int .i64 0, .bool false, .bool true, .int .i64 0, .string ⟨#[]⟩, .bool true, .int .i64 0, .string ⟨#[]⟩, .int .i64 0, .bool false] 28)).alloc (.cells #[.int .i64 0, .int .u64 0] 39) = W := hW
  rw [hW']
  have H4 := hide h4
  have H6 := hide h6
  have H7 := hide h7
  have HBW := hide hb
  clear hW hW' h4 h6 h7 hb
  go_loopw [18] (fun i wr => ∃ j : Nat, j ≤ n ∧ i = .int .i64 j ∧ Hid (Box wr w.heap.size (st.cells stz) 28) ∧ Hid (Box wr (w.heap.size + 1 + 1) (st.cells (st.ofAcc (st.acc (l.take j)))) 28) ∧
    Hid (Box wr (w.heap.size + 1 + 1 + 1) #[.int .i64 ((st.acc (l.take j)).t / 18446744073709551616), .int .u64 ((st.acc (l.take j)).t % 18446744073709551616)] 39) ∧ Hid (Below w.heap.size w wr)) (fun i _ => n - (intOf i).toNat)
  case atStart => exact ⟨0, Nat.zero_le _, rfl, H4, H6, H7, HBW⟩
  case round =>
    obtain ⟨j, hj, rfl, B4, B6, B7, HB⟩ := hrel
    have HTA := hide (acc_t (l := l.take j) (n := j) (by rw [List.length_take]; omega) (by omega) (fun v hv => HIN.out v (List.mem_of_mem_take hv)))
    have hz4 := B7.out.lt
    have hz6 := B6.out.lt
    have hz8 := B4.out.lt
    by_cases hjn : j < n
    · obtain ⟨v, hv⟩ : ∃ v, l[j]? = some v := ⟨_, List.getElem?_eq_getElem (by rw [HL.out]; exact hjn)⟩
      obtain ⟨bA, oA, rfl, hbA, c0, c1, c2⟩ := row_at3 hr hv
      have e0 : wr.cell? ⟨bA, oA + j * 3, none⟩ = some (.bool v.nul) := (HB.out.cell (p := ⟨bA, oA + j * 3, none⟩) hbA).trans c0
      have e1 : wr.cell? ⟨bA, oA + j * 3 + 1, none⟩ = some (.int .i64 v.n) := (HB.out.cell (p := ⟨bA, oA + j * 3 + 1, none⟩) hbA).trans c1
      have e2 : wr.cell? ⟨bA, oA + j * 3 + 2, none⟩ = some (.string v.s) := (HB.out.cell (p := ⟨bA, oA + j * 3 + 2, none⟩) hbA).trans c2
      have HACC := hide (st.acc_snoc hv)
      have hvin := HIN.out v (List.mem_of_getElem? hv)
      cases hvn : v.nul with
      | true =>
        rw [hvn] at e0
        have hof := ofAcc_nul (a := st.acc (l.take j)) hvn
        have hst := st.step_nul (a := st.acc (l.take j)) hvn
        have HOF := hide hof
        have HST := hide hst
        generalize hA : st.acc (l.take j) = a at B6 B7 HTA HACC HOF HST
        have d1 := B6.out.cell 1 (.bool a.hn) rfl
        have f1 := B6.out.frozen 1
        clear hof hst c0 c1 c2 hv
        go_wp2_with fail
        have hno4 : (⟨w.heap.size + 1 + 1, 1, none⟩ : Addr).block ≠ w.heap.size := by simp; omega
        have hno7 : (⟨w.heap.size + 1 + 1, 1, none⟩ : Addr).block ≠ w.heap.size + 1 + 1 + 1 := by simp
        refine ⟨⟨j + 1, by omega, by go_num, hide ((B4.out.other hno4 _).alloc _), hide ?_, hide ?_, hide ((HB.out.setCell (by simp; omega) _).alloc (by simp; omega) _)⟩, by simp [intOf]; omega⟩
        · rw [HACC.out, HOF.out]
          exact (B6.out.set 1 _).alloc _
        · rw [HACC.out, HST.out]
          exact (B7.out.other hno7 _).alloc _
      | false =>
        rw [hvn] at e0
        have hof := ofAcc_some (a := st.acc (l.take j)) hvn
        have hst := st.step_some (a := st.acc (l.take j)) hvn
        have HOF := hide hof
        have HST := hide hst
        generalize hA : st.acc (l.take j) = a at B6 B7 HTA HACC HOF HST
        obtain ⟨X, hX⟩ : ∃ X, wr.alloc (.cells #[.bool false, .int .i64 v.n, .string v.s] 26) = X := ⟨_, rfl⟩
        have bX := box_new wr #[.bool false, .int .i64 v.n, .string v.s] 26
        rw [hX] at bX
        have B4X := hide (show Box X w.heap.size (st.cells stz) 28 by rw [← hX]; exact B4.out.alloc _)
        have B6X := hide (show Box X (w.heap.size + 1 + 1) (st.cells (st.ofAcc a)) 28 by rw [← hX]; exact B6.out.alloc _)
        have B7X := hide (show Box X (w.heap.size + 1 + 1 + 1) #[.int .i64 (a.t / 18446744073709551616), .int .u64 (a.t % 18446744073709551616)] 39 by rw [← hX]; exact B7.out.alloc _)
        have HBX := hide (show Below w.heap.size w X by rw [← hX]; exact HB.out.alloc (by omega) _)
        have HX := hide hX
        have x0 := bX.cell 0 (.bool false) rfl
        have x1 := bX.cell 1 (.int .i64 v.n) rfl
        have x2 := bX.cell 2 (.string v.s) rfl
        have HVIN := hide hvin
        have HVN := hide hvn
        clear hof hst c0 c1 c2 hv hX bX hvin hA hvn
        go_wp2_with fail
        rw [HX.out]
        refine (note_any X (w.heap.size + 1 + 1) (w.heap.size + 1 + 1) (w.heap.size + 1 + 1 + 1) (Nat.le_refl _) (by omega) (by omega) (st.ofAcc a) a.t ⟨false, v.n, v.s⟩ HTA.out.1 HVIN.out ⟨by simp [st.ofAcc], by have := HTA.out.2; simp only [st.ofAcc]; omega⟩ B6X.out B7X.out).mono ?_
        rintro e w2 ⟨rfl, b6, b7, hb⟩
        have hv' : v = ⟨false, v.n, v.s⟩ := by have := HVN.out; cases v; simp_all
        rw [← hv'] at b6
        rw [← HOF.out] at b6
        have hb4 := hide (B4X.out.below hb (by omega))
        have hbw := hide (HBX.out.trans (Below.mono hb (by omega)))
        have hb6 := hide b6
        have hb7 := hide b7
        clear b6 b7 hb hv'
        go_wp2_with fail
        refine ⟨⟨j + 1, by omega, by go_num, hb4, hide ?_, hide ?_, hbw⟩, by simp [intOf]; omega⟩
        · rw [HACC.out]; exact hb6.out
        · rw [HACC.out, HST.out]; exact hb7.out
    · obtain rfl : j = n := by omega
      have HALL := hide (show l.take j = l from List.take_of_length_le (by rw [HL.out]; exact Nat.le_refl _))
      have HOFL := hide (show st.of k l = st.summed k (st.ofAcc (st.acc (l.take j))) (st.acc (l.take j)).t by rw [HALL.out]; rfl)
      generalize hA : st.acc (l.take j) = a at B6 B7 HTA HOFL
      have d0 := B6.out.cell 0 (.int .i64 (a.c : Int)) rfl
      have d1 := B6.out.cell 1 (.bool a.hn) rfl
      have d2 := B6.out.cell 2 (.bool a.mn.nul) rfl
      have d3 := B6.out.cell 3 (.int .i64 a.mn.n) rfl
      have d4 := B6.out.cell 4 (.string a.mn.s) rfl
      have d5 := B6.out.cell 5 (.bool a.mx.nul) rfl
      have d6 := B6.out.cell 6 (.int .i64 a.mx.n) rfl
      have d7 := B6.out.cell 7 (.string a.mx.s) rfl
      have d8 := B6.out.cell 8 (.int .i64 0) rfl
      have d9 := B6.out.cell 9 (.bool false) rfl
      have t0 := B7.out.cell 0 (.int .i64 (a.t / 18446744073709551616)) rfl
      have t1 := B7.out.cell 1 (.int .u64 (a.t % 18446744073709551616)) rfl
      clear hA
      go_wp2_with fail
      refine (summed_any wr k (st.ofAcc a) a.t HTA.out.1).mono ?_
      rintro e w2 ⟨rfl, hb⟩
      rw [← HOFL.out]
      obtain ⟨S, hS⟩ : ∃ S, st.of k l = S := ⟨_, rfl⟩
      rw [hS]
      have HS := hide hS
      have b4 := hide (B4.out.below hb B4.out.lt)
      have hbw := hide (HB.out.trans (Below.mono hb (by omega)))
      clear hb hS d0 d1 d2 d3 d4 d5 d6 d7 d8 d9 t0 t1
      go_wp2_with (refine wpList_store_row rfl 28 _ _ rfl w.heap.size (st.cells S) rfl rfl 28 _ b4.out (by kernel_rfl) rfl (cells_one S) ?_)
      refine bodyPost_ret (box_results rfl _ (setRow_heap _ _ _ _ _ _ b4.out) rfl Tryd.underlying28 rfl rfl) rfl ?_
      exact ⟨by rw [HS.out], below_setRow hbw.out (Nat.le_refl _) _⟩
#print axioms of_any
end Go.Proofs.YtdnkclbheimlcaaDoor
