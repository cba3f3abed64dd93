/-
  What is known of values: the document's examples; values that may be of a kind; the law on what is known, walked.
-/
import Derived.Test.YtdnkclbheimlcaaDoorStF
namespace Go.Proofs.YtdnkclbheimlcaaDoor
open Go.RowKit
set_option linter.unusedVariables false

theorem infoV : (Tryd.prog.info? 26).map (fun i => (i.zero, i.size, i.bytes)) = some (some (.agg #[.bool false, .int .i64 0, .string ⟨#[]⟩]), 3, 32) := by kernel_rfl
theorem val_row (w : World) (v : va.Val) (t : TypeId) : Row (w.alloc (.cells #[.bool v.nul, .int .i64 v.n, .string v.s] t)) (w.heap.size + 1) (some ⟨w.heap.size, 0, none⟩) (vcs [v]) := row_new w #[.bool v.nul, .int .i64 v.n, .string v.s] t (0, 0)

set_option maxRecDepth 100000 in
set_option maxHeartbeats 4000000 in
theorem vfew_any (w : World) (k : Int) (A : Option Addr) (n c : Nat) (l : List va.Val) (hl : l.length = n) (hn : n ≤ 9223372036854775807) (hs : ∀ v ∈ l, v.s.size ≤ 9223372036854775807) (hT : Tabs8 w) (hr : Row w w.heap.size A (vcs l)) :
    Calls Tryd.prog 8 #[.int .i64 k, .slice A n c] w fun e w' => ∃ (o : List va.Val) (A' : Option Addr) (m c' : Nat), e = .returned (.slice A' m c') ∧ o.length = m ∧ m ≤ 300 ∧ (∀ v ∈ o, v ∈ l) ∧ Row w' w'.heap.size A' (vcs o) ∧ Below w.heap.size w w' := by
  have HL := hide hl
  have HS := hide hs
  have HT := hide hT
  clear hl hs hT
  go_enter Tryd.func8, Tryd.ntmps8
  go_wp2_with fail
  obtain ⟨W0, hW0⟩ : ∃ W0, w.alloc (.cells #[] 26) = W0 := ⟨_, rfl⟩
  rw [hW0]
  have hs1 := hide (show W0.ownsRow w.heap.size 26 3 (.slice (some ⟨w.heap.size, 0, none⟩) 0 0) 0 (vcs []) by rw [← hW0]; exact World.ownsRow_lit _ #[] 0 (Nat.le_refl _) (by simp) rfl)
  have hs2 := hide (show Below w.heap.size w W0 by rw [← hW0]; exact (Below.refl _ _).alloc (Nat.le_refl _) _)
  clear hW0
  go_loopw [5, 6] (fun s i wr => ∃ (j m cs : Nat) (As : Option Addr) (o : List va.Val), j ≤ n ∧ j ≤ 300 ∧ m ≤ j ∧ i = .int .i64 j ∧ s = .slice As m cs ∧ Hid (o.length = m) ∧ Hid (∀ v ∈ o, v ∈ l) ∧ Hid (wr.ownsRow w.heap.size 26 3 (.slice As m cs) m (vcs o)) ∧ Hid (Below w.heap.size w wr)) (fun _ i _ => n - (intOf i).toNat)
  case atStart => exact ⟨0, 0, 0, _, [], Nat.zero_le _, by omega, Nat.le_refl _, rfl, rfl, hide rfl, hide (by simp), hs1, hs2⟩
  case round =>
    obtain ⟨j, m, cs, As, o, hj, hj3, hm, rfl, rfl, HOL, HOM, HO, HB⟩ := hrel
    have hz := HB.out.size
    by_cases hjn : j < n ∧ j < 300
    · have hj1 := hjn.1
      have hj2 : decide ((j : Int) < 300) = true := decide_eq_true (by omega)
      have hj2' := hjn.2
      obtain ⟨v, hv⟩ : ∃ v, l[j]? = some v := ⟨_, List.getElem?_eq_getElem (by rw [HL.out]; exact hj1)⟩
      obtain ⟨bA, oA, rfl, hbA, c0, c1, c2⟩ := row_at3 hr hv
      have e0 : wr.cell? ⟨bA, oA + j * 3, none⟩ = some (.bool v.nul) := (HB.out.cell (p := ⟨bA, oA + j * 3, none⟩) hbA).trans c0
      have e1 : wr.cell? ⟨bA, oA + j * 3 + 1, none⟩ = some (.int .i64 v.n) := (HB.out.cell (p := ⟨bA, oA + j * 3 + 1, none⟩) hbA).trans c1
      have e2 : wr.cell? ⟨bA, oA + j * 3 + 2, none⟩ = some (.string v.s) := (HB.out.cell (p := ⟨bA, oA + j * 3 + 2, none⟩) hbA).trans c2
      have HMEM := hide (List.mem_of_getElem? hv)
      have HC0 := hide c0
      have HC1 := hide c1
      have HC2 := hide c2
      clear c0 c1 c2 hv hjn
      go_wp2_with fail
      refine (refvmay_any wr k v (HS.out v HMEM.out) (HT.out.le HB.out)).mono ?_
      rintro e w1 ⟨rfl, hb1⟩
      have HB1 := hide (show Le w w1 from HB.out.trans (hb1.mono hz))
      have HO1 := hide (own_below HO.out hb1)
      have hz1 := HB1.out.size
      have e0 : w1.cell? ⟨bA, oA + j * 3, none⟩ = some (.bool v.nul) := (HB1.out.cell (p := ⟨bA, oA + j * 3, none⟩) hbA).trans HC0.out
      have e1 : w1.cell? ⟨bA, oA + j * 3 + 1, none⟩ = some (.int .i64 v.n) := (HB1.out.cell (p := ⟨bA, oA + j * 3 + 1, none⟩) hbA).trans HC1.out
      have e2 : w1.cell? ⟨bA, oA + j * 3 + 2, none⟩ = some (.string v.s) := (HB1.out.cell (p := ⟨bA, oA + j * 3 + 2, none⟩) hbA).trans HC2.out
      obtain ⟨b, hb⟩ : ∃ b, va.mayV k v = b := ⟨_, rfl⟩
      rw [hb]
      clear hb1 hb
      cases b with
      | false =>
        go_wp2_with fail
        exact ⟨⟨j + 1, m, cs, As, o, by omega, by omega, by omega, by go_num, rfl, HOL, HOM, HO1, HB1⟩, by simp [intOf]; omega⟩
      | true =>
        go_wp2_with (at_builtin; refine wpList_append_row _ rfl (.tmp 26) (.tmp 31) 22 rfl w.heap.size 26 infoV Tryd.underlying22 rfl (by omega) (.slice As m cs) m _ rfl (HO1.out.alloc _) _ (some ⟨w1.heap.size, 0, none⟩) 1 1 (vcs [v]) rfl rfl (val_row w1 v _) (by intro u hu; simp [vcs] at hu; rcases hu with rfl | rfl | rfl <;> rfl) (by simp only [maxLen]; omega) (by omega) (by simp; omega) ?_; intro v' w' hown' hg hat; obtain ⟨A', c', rfl, -, -⟩ := own_form hown'; have HO' := hide hown'; have HG := hide hg; clear hown' hg hat)
        have HB' := hide (show Below w.heap.size w w' from Below.trans (HB1.out.alloc hz1 _) (below_own HG.out (Nat.le_refl _) (by simp; omega) (fun g h => own_ge HO1.out h (Nat.le_refl _))))
        refine ⟨⟨j + 1, m + 1, c', A', o ++ [v], by omega, by omega, by omega, by go_num, rfl, hide (by simp [HOL.out]), hide ?_, hide (by rw [vcs_append]; exact HO'.out), HB'⟩, by simp [intOf]; omega⟩
        intro u hu
        rcases List.mem_append.1 hu with hu | hu
        · exact HOM.out u hu
        · rw [List.mem_singleton.1 hu]; exact HMEM.out
    · by_cases hj1 : j < n
      · have hj2 : decide ((j : Int) < 300) = false := decide_eq_false (by omega)
        go_wp2_with fail
        go_ret
        exact ⟨o, As, m, cs, rfl, HOL.out, by omega, HOM.out, Row.of_own HO.out, HB.out⟩
      · obtain rfl : j = n := by omega
        go_wp2_with fail
        go_ret
        exact ⟨o, As, m, cs, rfl, HOL.out, by omega, HOM.out, Row.of_own HO.out, HB.out⟩
#print axioms vfew_any
end Go.Proofs.YtdnkclbheimlcaaDoor
