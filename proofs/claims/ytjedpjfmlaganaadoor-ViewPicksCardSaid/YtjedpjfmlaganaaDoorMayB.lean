/-
  Whether a value may be of a kind, walked: where a text is looked into; the document's answer.
-/
import Derived.Test.YtjedpjfmlaganaaDoorMayA
import Derived.Test.YtjedpjfmlaganaaDoorShelfU
import Derived.Lib.ValidAsc
import Derived.OpenShut
namespace Go.Proofs.YtjedpjfmlaganaaDoor
set_option maxRecDepth 100000
open Go.RowKit
set_option linter.unusedVariables false

/-- utf8's two tables lie there. -/
def Tabs8 (w : World) : Prop := Lib.Utf8Tabs 0 1 w ∧ 0 < w.heap.size ∧ 1 < w.heap.size
theorem Tabs8.le {w W : World} (h : Tabs8 w) (hb : Le w W) : Tabs8 W := by
  obtain ⟨⟨h1, h2⟩, z1, z2⟩ := h
  have hs := hb.size
  refine ⟨⟨fun c hc => ?_, fun i hi => ?_⟩, by omega, by omega⟩
  · exact (hb.cell (p := ⟨0, c, none⟩) z1).trans (h1 c hc)
  · exact ⟨(hb.cell (p := ⟨1, 2 * i, none⟩) z2).trans (h2 i hi).1, (hb.cell (p := ⟨1, 2 * i + 1, none⟩) z2).trans (h2 i hi).2⟩
theorem decodeGo_at (s : ByteArray) (pos : Nat) (h : pos < s.size) : Lib.decodeGo (s.extract pos s.size) = Utf8.decode s pos := by
  have hz : (s.extract pos s.size).size = s.size - pos := by simp
  unfold Lib.decodeGo
  rw [if_neg (by omega), ← Lib.decodeL_drop, ← Lib.decodeL_drop, List.drop_zero, Lib.ext_list]
theorem iter_le2 (w : World) (s : ByteArray) (p : Nat) : Le w (w.iter s p) := (Below.refl _ _).alloc (Nat.le_refl _) _
theorem iterPos_of {w : World} {k : Nat} {s : ByteArray} {p : Nat} (h : w.heap[k]? = some (.stringIter s p)) : w.iterPos k = p := by simp [World.iterPos, h]
theorem valid_false {l : List UInt8} (hne : l ≠ []) (h1 : (Lib.decodeL l).1 = 65533) (h2 : (Lib.decodeL l).2 = 1) : Lib.validD l = false := by
  rw [Lib.validD_step l hne, if_pos ⟨h1, h2⟩]
theorem valid_next {l : List UInt8} (hne : l ≠ []) (h : ¬ ((Lib.decodeL l).1 = 65533 ∧ (Lib.decodeL l).2 = 1)) : Lib.validD l = Lib.validD (l.drop (Lib.decodeL l).2) := by
  rw [Lib.validD_step l hne, if_neg h]

set_option maxRecDepth 100000 in
set_option maxHeartbeats 1000000 in
theorem right_any (w : World) (s : ByteArray) (hs : s.size ≤ 9223372036854775807) (hT : Tabs8 w) : Calls Tryd.prog 56 #[.string s] w fun e w' => e = .returned (.bool (Lib.validD s.data.toList)) ∧ Below w.heap.size w w' := by
  have HT := hide hT
  clear hT
  obtain ⟨ans, hans⟩ : ∃ ans, Lib.validD s.data.toList = ans := ⟨_, rfl⟩
  rw [hans]
  have HA := hide (show Lib.validD (s.data.toList.drop 0) = ans by rw [List.drop_zero]; exact hans)
  clear hans
  go_enter Tryd.func56, Tryd.ntmps56
  go_wp2_with fail
  go_loopw [3] (fun _ wr => ∃ pos : Nat, Hid (wr.heap[w.heap.size]? = some (.stringIter s pos)) ∧ Hid (Lib.validD (s.data.toList.drop pos) = ans) ∧ Hid (Le w wr)) (fun _ wr => s.size - wr.iterPos w.heap.size)
  case atStart => exact ⟨0, hide (World.iter_heap w s 0), HA, hide (iter_le2 w s 0)⟩
  case round =>
    obtain ⟨pos, HI, HV, HB⟩ := hrel
    by_cases hp : pos < s.size
    · have hne : s.data.toList.drop pos ≠ [] := by
        intro h
        have := congrArg List.length h
        rw [List.length_drop, ← Lib.size_eq] at this
        simp at this
        omega
      have hnx : ∀ ty, (Instr.next (.pointer (some ⟨w.heap.size, 0, none⟩)) true ty).run Tryd.prog wr = _ := fun ty => Go.Lib.run_next_any_at wr w.heap.size s pos ty HI.out hp
      have hD := Lib.decodeL_drop s pos
      have hK1 := Lib.decodeL_width (s.data.toList.drop pos)
      have hgo := decodeGo_at s pos hp
      have hst : (Lib.decodeL (s.data.toList.drop pos)).1 = 65533 → (Lib.decodeL (s.data.toList.drop pos)).2 = 1 → ans = false := fun a b => by rw [← HV.out]; exact valid_false hne a b
      have hnt : ¬ ((Lib.decodeL (s.data.toList.drop pos)).1 = 65533 ∧ (Lib.decodeL (s.data.toList.drop pos)).2 = 1) → Lib.validD (s.data.toList.drop (pos + (Lib.decodeL (s.data.toList.drop pos)).2)) = ans := fun a => by rw [← HV.out, valid_next hne a, List.drop_drop]
      rw [hD] at hK1 hst hnt
      obtain ⟨R, hR⟩ : ∃ R, (Utf8.decode s pos).1 = R := ⟨_, rfl⟩
      obtain ⟨K, hK⟩ : ∃ K, (Utf8.decode s pos).2 = K := ⟨_, rfl⟩
      rw [hR, hK] at hnx hst hnt
      rw [hK] at hK1
      have hgo1 : (Lib.decodeGo (s.extract pos s.size)).1 = R := by rw [hgo, hR]
      have hgo2 : (Lib.decodeGo (s.extract pos s.size)).2 = K := by rw [hgo, hK]
      have HG1 := hide hgo1
      have HG2 := hide hgo2
      have HST := hide hst
      have HNT := hide hnt
      obtain ⟨X, hX⟩ : ∃ X, wr.iterAt w.heap.size s (pos + K) = X := ⟨_, rfl⟩
      have HXI := hide (show X.heap[w.heap.size]? = some (.stringIter s (pos + K)) by rw [← hX]; exact Go.Lib.iterAt_heap _ _ _ _ _ HI.out)
      have HXB := hide (show Le w X by rw [← hX]; exact Go.Lib.below_iterAt HB.out (Nat.le_refl _) s (pos + K))
      have HP := hide (iterPos_of HI.out)
      rw [hX] at hnx
      clear hX hst hnt hgo1 hgo2 hgo hD hne hR hK
      by_cases h3 : R = 65533
      · subst h3
        go_wp2_with fail
        refine (utf8_DecodeRuneInString (s.extract pos s.size) X (HT.out.le HXB.out).1).mono ?_
        rintro e w3 ⟨rfl, hb3⟩
        rw [HG1.out, HG2.out]
        have HB3 := hide (show Le w w3 from HXB.out.trans hb3)
        have HI3 := hide ((hb3.block w.heap.size (Array.getElem?_eq_some_iff.1 HXI.out).1).trans HXI.out)
        clear hb3
        by_cases h1 : K = 1
        · subst h1
          have HF := hide (show ans = false by simpa using HST.out)
          go_wp2_with fail
          go_ret
          rw [HF.out]
          exact ⟨rfl, HB3.out⟩
        · have HN := hide (HNT.out (fun h => h1 h.2))
          go_wp2_with fail
          exact ⟨⟨pos + K, HI3, HN, HB3⟩, by rw [iterPos_of HI3.out, HP.out]; omega⟩
      · have HN := hide (HNT.out (fun h => h3 h.1))
        go_wp2_with fail
        exact ⟨⟨pos + K, HXI, HN, HXB⟩, by rw [iterPos_of HXI.out, HP.out]; omega⟩
    · have hnx : ∀ ty, (Instr.next (.pointer (some ⟨w.heap.size, 0, none⟩)) true ty).run Tryd.prog wr = _ := fun ty => Go.Lib.run_next_end_at wr w.heap.size s pos ty HI.out hp
      have HF := hide (show ans = true by rw [← HV.out, List.drop_eq_nil_of_le (by rw [← Lib.size_eq]; omega)]; rfl)
      go_wp2_with fail
      go_ret
      rw [HF.out]
      exact ⟨rfl, HB.out⟩
#print axioms right_any
set_option maxRecDepth 100000 in
set_option maxHeartbeats 1000000 in
theorem may_text (w : World) (k : Int) (n : Int) (s : ByteArray) (h : k = 6 ∨ k = 7) (hs : s.size ≤ 9223372036854775807) (hT : Tabs8 w) : Calls Tryd.prog 44 #[.int .i64 k, .agg #[.bool false, .int .i64 n, .string s]] w fun e w' => e = .returned (.bool (va.mayV k ⟨false, n, s⟩)) ∧ Below w.heap.size w w' := by
  have hm : va.mayV k ⟨false, n, s⟩ = (decide (n = 0) && decide (s.size ≤ 300) && (decide (k = 7) || Lib.validD s.data.toList)) := by unfold va.mayV; rw [decide_eq_true (show 1 ≤ k ∧ k ≤ 7 by omega)]; simp only [Bool.true_and, Bool.false_eq_true, if_false]; rw [if_neg (by omega)]
  rw [hm]
  obtain ⟨W, hW, bx, hb⟩ := valbox w ⟨false, n, s⟩ 43
  have HB := hide hb
  have HW := hide hW
  have HT := hide (hT.le hb)
  have c0 := bx.cell 0 (.bool false) rfl
  have c1 := bx.cell 1 (.int .i64 n) rfl
  have c2 := bx.cell 2 (.string s) rfl
  have hret : ∀ b : Bool, (Ending.returned (.bool b) = .returned (.bool b)) := fun _ => rfl
  clear hW bx hb hm hT hret
  by_cases h0 : n = 0
  · subst h0
    by_cases h3 : s.size ≤ 300
    · have d3 : decide ((s.size : Int) ≤ 300) = true := decide_eq_true (by omega)
      rw [decide_eq_true h3]
      rcases h with rfl | rfl
      · go_enter Tryd.func44, Tryd.ntmps44
        go_wp2_with fail
        rw [HW.out]
        refine (number_any W _).mono ?_
        rintro e w' ⟨rfl, rfl⟩
        rw [num6]
        go_wp2_with fail
        refine (right_any W s hs HT.out).mono ?_
        rintro e w2 ⟨rfl, hb2⟩
        have HB2 := hide (show Le w w2 from HB.out.trans hb2)
        obtain ⟨V, hV⟩ : ∃ V, Lib.validD s.data.toList = V := ⟨_, rfl⟩
        rw [hV]
        have HV := hide hV
        clear hb2 hV
        go_wp2_with fail
        all_goals
          go_ret
          exact ⟨by simp [HV.out], HB2.out⟩
      · go_enter Tryd.func44, Tryd.ntmps44
        go_wp2_with fail
        rw [HW.out]
        refine (number_any W _).mono ?_
        rintro e w' ⟨rfl, rfl⟩
        rw [num7]
        go_wp2_with fail
        all_goals
          go_ret
          exact ⟨by simp, HB.out⟩
    · have d3 : decide ((s.size : Int) ≤ 300) = false := decide_eq_false (by omega)
      rw [decide_eq_false h3]
      rcases h with rfl | rfl
      all_goals
        go_enter Tryd.func44, Tryd.ntmps44
        go_wp2_with fail
        rw [HW.out]
        refine (number_any W _).mono ?_
        rintro e w' ⟨rfl, rfl⟩
        first | rw [num6] | rw [num7]
        go_wp2_with fail
        all_goals
          go_ret
          exact ⟨by simp, HB.out⟩
  · have h0' : (n == 0) = false := by simpa using h0
    rw [decide_eq_false h0]
    rcases h with rfl | rfl
    all_goals
      go_enter Tryd.func44, Tryd.ntmps44
      go_wp2_with fail
      rw [HW.out]
      refine (number_any W _).mono ?_
      rintro e w' ⟨rfl, rfl⟩
      first | rw [num6] | rw [num7]
      go_wp2_with fail
      all_goals
        go_ret
        exact ⟨by simp, HB.out⟩
#print axioms may_text

theorem vmay_any (w : World) (k : Int) (v : va.Val) (wn : (Lit.int .i64 v.n).wf = true) (hs : v.s.size ≤ 9223372036854775807) (hT : Tabs8 w) : Calls Tryd.prog 44 #[.int .i64 k, .agg #[.bool v.nul, .int .i64 v.n, .string v.s]] w fun e w' => e = .returned (.bool (va.mayV k v)) ∧ Below w.heap.size w w' := by
  by_cases h : 1 ≤ k ∧ k ≤ 7
  · obtain ⟨nul, n, s⟩ := v
    have hn : -9223372036854775808 ≤ n ∧ n ≤ 9223372036854775807 := by have := bounds_i64 wn; exact ⟨by simpa using this.1, by simpa using this.2⟩
    cases nul with
    | true => exact may_null w k n s h
    | false =>
      by_cases h5 : k ≤ 5
      · exact may_num w k n s ⟨h.1, h5⟩ hn.1 hn.2
      · exact may_text w k n s (by omega) hs hT
  · exact may_out w k v h
end Go.Proofs.YtjedpjfmlaganaaDoor
