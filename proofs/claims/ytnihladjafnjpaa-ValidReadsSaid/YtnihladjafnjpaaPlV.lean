/-
  Directories of a kind that may be taken, in their order, walked.
-/
import Derived.Test.YtnihladjafnjpaaPlU
namespace Go.Proofs.Ytnihladjafnjpaa
open Go.Shelf Go.RowKit
set_option linter.unusedVariables false

set_option maxRecDepth 100000 in
theorem insertion_nil (w : World) (c : Value) : Calls Try.prog 47 #[.slice none 0 0, .int .i64 0, .int .i64 0, c] w fun e w' => e = .returned (.tuple #[]) ∧ w' = w := by
  go_enter Try.func47, Try.ntmps47
  go_wp2_with fail
  go_loopw [8] (fun i wr => i = .int .i64 1 ∧ wr = w) (fun _ _ => 0)
  case atStart => exact ⟨by go_num, rfl⟩
  case round =>
    obtain ⟨rfl, rfl⟩ := hrel
    go_wp2_with fail
    go_end0
    exact ⟨rfl, rfl⟩
set_option maxRecDepth 100000 in
theorem pdq_nil (w : World) (k : Int) (c : Value) : Calls Try.prog 45 #[.slice none 0 0, .int .i64 0, .int .i64 0, .int .i64 k, c] w fun e w' => e = .returned (.tuple #[]) ∧ w' = w := by
  have hin := hide (insertion_nil w c)
  go_enter Try.func45, Try.ntmps45
  go_wp2_with fail
  go_loopw [1, 2, 3, 10, 11] (fun a b l p q wr => a = .int .i64 0 ∧ b = .int .i64 0 ∧ l = .int .i64 k ∧ p = .bool true ∧ q = .bool true ∧ wr = w) (fun _ _ _ _ _ _ => 0)
  case atStart => exact ⟨rfl, rfl, rfl, rfl, rfl, rfl⟩
  case round =>
    obtain ⟨rfl, rfl, rfl, rfl, rfl, rfl⟩ := hrel
    go_wp2_with fail
    refine hin.out.mono ?_
    rintro e w' ⟨rfl, rfl⟩
    go_wp2_with fail
    refine bodyPost_ret (results_none rfl _ _ _) rfl ?_
    exact ⟨rfl, rfl⟩
set_option maxRecDepth 100000 in
theorem sort_nil (w : World) (c : Value) : Calls Try.prog 41 #[.slice none 0 0, c] w fun e w' => e = .returned (.tuple #[]) ∧ w' = w := by
  have hl := Any.bits_Len (SlLaysF0.n15.bits (P := Try.prog) (ρ := sort_ren) { sort_lays with }) 0 w (by omega) (by omega)
  change Calls Try.prog 46 _ _ _ at hl
  generalize ((Lib.bitLen (0 : Int).toNat : Nat) : Int) = k at hl
  have HL := hide hl
  have hp := hide (pdq_nil w k c)
  clear hl
  go_enter Try.func41, Try.ntmps41
  go_wp2_with fail
  refine HL.out.mono ?_
  rintro e w' ⟨rfl, rfl⟩
  go_wp2_with fail
  refine hp.out.mono ?_
  rintro e w' ⟨rfl, rfl⟩
  go_wp2_with fail
  go_end0
  exact ⟨rfl, rfl⟩
#print axioms sort_nil
theorem sort_any (w : World) (B : Nat) (v : Value) (o : List dr.Dr) (n : Nat) (hn : o.length = n) (hn9 : n ≤ 1000000000) (hown : w.ownsRow B 41 3 v n (dcs o)) (hs : ∀ d ∈ o, dr.mayD d = true) :
    Calls Try.prog 41 #[v, .func (.func 42) #[] #[]] w fun e w' =>
      e = .returned (.tuple #[]) ∧ ∃ o', o'.Perm o ∧ o'.Pairwise dr.Le2 ∧ w'.ownsRow B 41 3 v n (dcs o') ∧ Below B w w' := by
  rcases hown.2 with ⟨rfl, rfl⟩ | ⟨g, cap, cur, rfl, a1, a2, a3, a4, a5, a6⟩
  · obtain rfl : o = [] := List.length_eq_zero_iff.1 hn
    exact (sort_nil w _).mono fun e w' ⟨h1, h2⟩ => ⟨h1, [], List.Perm.refl _, List.Pairwise.nil, by rw [h2]; exact hown, by rw [h2]; exact Below.refl _ _⟩
  · exact sort_some w B g cap o n cur hn hn9 a1 a2 a3 a4 a5 a6 fun d hd => by
      have := dr.may_facts (hs d hd)
      omega

set_option maxRecDepth 100000 in
set_option maxHeartbeats 2000000 in
theorem chosen1_any (w : World) (bl bm : Nat) (kd most : Int) (A : Option Addr) (n c : Nat) (l : List dr.Dr) (hl : l.length = n) (hn : n ≤ 1000) (hr : Row w w.heap.size A (dcs l))
    (h0 : w.cell? ⟨bl, 0, none⟩ = some (.slice A n c)) (hbl : bl < w.heap.size) (h1 : w.cell? ⟨bm, 0, none⟩ = some (.int .i64 most)) (hbm : bm < w.heap.size) :
    Calls Try.prog 38 #[.int .i64 kd, .pointer (some ⟨bl, 0, none⟩), .pointer (some ⟨bm, 0, none⟩)] w fun e w' => ∃ (A' : Option Addr) (k c' : Nat) (o : List dr.Dr),
      e = .returned (.slice A' k c') ∧ o.length = k ∧ k ≤ n ∧ w'.ownsRow w.heap.size 41 3 (.slice A' k c') k (dcs o) ∧ (∀ d, d ∈ o ↔ d ∈ l ∧ dr.cand kd most d = true) ∧ o.Pairwise dr.Le2 ∧ Below w.heap.size w w' := by
  obtain ⟨X, hX, bX, hlX⟩ : ∃ X, w.alloc (.cells #[.int .i64 kd] 3) = X ∧ Box X w.heap.size #[.int .i64 kd] 3 ∧ Le w X := ⟨_, rfl, box_new _ _ _, (Below.refl _ _).alloc (Nat.le_refl _) _⟩
  have HX := hide hX
  have HL := hide hlX
  have BX := hide bX
  have g0 : X.cell? ⟨bl, 0, none⟩ = some (.slice A n c) := (hlX.cell (p := ⟨bl, 0, none⟩) hbl).trans h0
  have hzX := bX.lt
  have hcl := hide (cloned_any X A n c (dcs l) (by rw [dcs_len, hl]) dcs_one (by omega) ((hlX.row hr (Nat.le_refl _)).more hlX.size))
  have hdl := hide (fun (w1 : World) (h : Below X.heap.size X w1) (v : Value) (ho : w1.ownsRow X.heap.size 41 3 v n (dcs l)) => deletev2_any w1 X.heap.size 39 (.pointer (some ⟨w.heap.size, 0, none⟩)) (.pointer (some ⟨bm, 0, none⟩)) (fun d => !dr.cand kd most d) v n l hl (by omega) h.size ho enterChosen11 (fun W hW d _ => chosen11_any W w.heap.size bm kd most d (bX.later 0 _ rfl W (Below.trans h hW)) (Nat.lt_of_lt_of_le hzX (Below.trans h hW).size) (((hlX.trans (Below.trans h hW)).cell (p := ⟨bm, 0, none⟩) hbm).trans h1) (Nat.lt_of_lt_of_le hbm (hlX.trans (Below.trans h hW)).size)))
  have HLL := hide hl
  clear hX bX hlX h0 h1 hr hl
  go_enter Try.func38, Try.ntmps38
  go_upto_region 1 with fail
  rw [HX.out]
  go_wp2_with fail
  refine hcl.out.mono ?_
  rintro e w1 ⟨v, rfl, hown, hb⟩
  have hd1 := hide (hdl.out w1 hb v hown)
  have HB1 := hide (show Below X.heap.size X w1 from hb)
  clear hb hown
  go_wp2_with fail
  refine hd1.out.mono ?_
  rintro e w2 ⟨v2, rfl, hown, hb⟩
  have HB2 := hide (show Below X.heap.size X w2 from Below.trans HB1.out hb)
  have HO2 := hide hown
  clear hb hown
  have hlen : (kept (fun d => !dr.cand kd most d) l).length ≤ n := by rw [← HLL.out]; exact List.length_filter_le _ _
  have hst := hide (sort_any w2 X.heap.size v2 (kept (fun d => !dr.cand kd most d) l) _ rfl (by omega) HO2.out (fun d hd => by
    have h := (List.mem_filter.1 hd).2
    simp only [Bool.not_not] at h
    exact (dr.cand_iff.1 h).2.1))
  go_wp2_with fail
  refine hst.out.mono ?_
  rintro e w3 ⟨rfl, o, hperm, hpw, hown, hb⟩
  obtain ⟨A', c', rfl, -, -⟩ := own_form hown
  have HB3 := hide (show Below X.heap.size X w3 from Below.trans HB2.out hb)
  have HO3 := hide hown
  have HP := hide hperm
  have HW := hide hpw
  clear hb hown hperm hpw
  go_wp2_with fail
  go_ret
  refine ⟨A', _, c', o, rfl, HP.out.length_eq, hlen, own_more HO3.out (Nat.le_of_lt hzX), fun d => ?_, HW.out, HL.out.trans (Below.mono HB3.out (Nat.le_refl _))⟩
  rw [HP.out.mem_iff]
  unfold kept
  rw [List.mem_filter]
  simp only [Bool.not_not]
#print axioms chosen1_any
theorem enterChosen1 : ∀ args W, (callFunc 38 args).run Try.prog W = .ok (.enter 38 args) W :=
  fun args W => run_enter Try.func38 (by decide) rfl args W
end Go.Proofs.Ytnihladjafnjpaa
