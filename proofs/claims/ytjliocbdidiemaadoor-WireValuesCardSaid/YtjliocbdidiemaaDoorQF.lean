/-
  The document's examples of fields, walked.
-/
import Derived.Test.YtjliocbdidiemaaDoorQE
namespace Go.Proofs.YtjliocbdidiemaaDoor
open Go.RowKit
set_option linter.unusedVariables false

theorem v300 : var.vput 300 = [172, 2] := by rw [var.vput_big (by omega), var.vput_small (by omega)]
def exF : List Fld := [⟨1, false, 300, []⟩, ⟨2, true, 0, [97, 98]⟩]
theorem exF_put : wi.put exF = ([8, 172, 2, 18, 2, 97, 98], 0) := by
  have h : wi.put exF = (wi.enc exF, 0) := by unfold wi.put; rw [if_pos (by decide)]
  rw [h]
  simp [wi.enc, exF, wi.encF, v300, var.vput_small]
theorem exV_enc : valE false (-1) [] = [8, 0, 16, 1, 26, 0] := by
  simp [valE, valF, wi.enc, wi.encF, bit, zig, var.vput_small]
theorem exF_fits : ∀ f ∈ exF, wi.Fits f := by
  intro f hf
  simp [exF] at hf
  rcases hf with rfl | rfl
  · exact ⟨show (300 : Nat) < 18446744073709551616 by decide, by simp, by simp⟩
  · exact ⟨show (0 : Nat) < 18446744073709551616 by decide, by decide, by decide⟩

/-- Bytes that are made a row of bytes bear a mark behind their last cell. -/
theorem run_mark (w : World) (C : Array Value) (n c : Nat) : (convert 22 22 (.slice (some ⟨w.heap.size, 0, none⟩) n c)).run Tryd.prog (w.alloc (.cells C 5)) =
    .ok (.slice (some ⟨w.heap.size, 0, none⟩) n c) (w.alloc (.cells C 5 (C.size, C.size + 1))) := by
  have hsh : (w.alloc (.cells C 5)).shape? w.heap.size = some (5, C.size) := by
    have : (w.alloc (.cells C 5)).heap[w.heap.size]? = some (.cells C 5) := heap_alloc_new _ _
    unfold World.shape?
    rw [this]
  have hfr : ∀ n : Nat, (w.alloc (.cells C 5)).freeze ⟨w.heap.size, n, none⟩ 1 = w.alloc (.cells C 5 (n, n + 1)) := fun n => by
    have hm : ∀ (a : Array Obj) (x : Obj) (f : Obj → Obj), (a.push x).modify a.size f = a.push (f x) := by
      intro a x f
      apply Array.ext
      · simp
      · intro i h1 h2
        simp only [Array.getElem_modify, Array.getElem_push]
        by_cases h : a.size = i
        · subst h
          simp
        · have hi : i < a.size := by simp at h1; omega
          simp [h, hi]
    unfold World.freeze
    rw [if_neg (by decide)]
    show ({ w.alloc (.cells C 5) with heap := (w.heap.push (.cells C 5)).modify w.heap.size _ } : World) = _
    rw [hm]
    rfl
  simp [convert, run_underlying Tryd.underlying22, run_underlying Tryd.underlying5, markStringish, hsh]
  exact hfr _

set_option maxRecDepth 100000 in
set_option maxHeartbeats 4000000 in
theorem shown_any (w : World) : Calls Tryd.prog 5 #[] w fun e w' => e = .returned (.bool true) ∧ Below w.heap.size w w' := by
  go_enter Tryd.func5, Tryd.ntmps5
  have qc : (convert 22 22 (.slice (some ⟨w.heap.size, 0, none⟩) 2 2)).run Tryd.prog (w.alloc (.cells #[.int .u8 97, .int .u8 98] 5)) = .ok (.slice (some ⟨w.heap.size, 0, none⟩) 2 2) (w.alloc (.cells #[.int .u8 97, .int .u8 98] 5 (2, 3))) := run_mark w _ 2 2
  go_wp2_with fail
  clear qc
  obtain ⟨W, hW⟩ : ∃ W, w.alloc (.cells #[.int .u8 97, .int .u8 98] 5 (2, 3)) = W := ⟨_, rfl⟩
  have hrow : Row W W.heap.size (some ⟨w.heap.size, 0, none⟩) (u8s [97, 98]) := by
    rw [← hW]
    exact (row_new w #[.int .u8 97, .int .u8 98] 5 (2, 3)).more (by simp)
  have hb : Le w W := by rw [← hW]; exact (Below.refl _ _).alloc (Nat.le_refl _) _
  have hzW : W.heap.size = w.heap.size + 1 := by rw [← hW]; simp
  rw [hW]
  clear hW
  obtain ⟨X, hX⟩ : ∃ X, W.alloc (.cells #[.int .i64 1, .bool false, .int .u64 300, .slice none 0 0, .int .i64 2, .bool true, .int .u64 0, .slice (some ⟨w.heap.size, 0, none⟩) 2 2] 49) = X := ⟨_, rfl⟩
  have hXrow : Row X X.heap.size (some ⟨W.heap.size, 0, none⟩) (fcs [(⟨1, false, 300, []⟩, none, 0), (⟨2, true, 0, [97, 98]⟩, some ⟨w.heap.size, 0, none⟩, 2)]) := by
    rw [← hX]
    exact (row_new W #[.int .i64 1, .bool false, .int .u64 300, .slice none 0 0, .int .i64 2, .bool true, .int .u64 0, .slice (some ⟨w.heap.size, 0, none⟩) 2 2] 49 (0, 0)).more (by simp)
  have hLX : Le W X := by rw [← hX]; exact (Below.refl _ _).alloc (Nat.le_refl _) _
  rw [hzW] at hXrow
  rw [hX]
  clear hX
  refine (wput_any X _ 2 2 [(⟨1, false, 300, []⟩, none, 0), (⟨2, true, 0, [97, 98]⟩, some ⟨w.heap.size, 0, none⟩, 2)] exF rfl rfl (by omega) exF_fits hXrow (fun p hp => by
    simp at hp
    rcases hp with rfl | rfl
    · exact ⟨by simp, by simp, Row.none_⟩
    · exact ⟨by simp, by unfold maxLen; simp, hrow.le hLX⟩)).mono ?_
  rintro e w1 ⟨v1, rfl, hown1, hb1⟩
  rw [exF_put] at hown1 ⊢
  have hown1' : w1.ownsRow X.heap.size 5 1 v1 7 (u8s [8, 172, 2, 18, 2, 97, 98]) := hown1
  obtain ⟨A1, c1, rfl, -, -⟩ := own_form hown1'
  have q1 := conv8 w1 _ A1 7 c1 [8, 172, 2, 18, 2, 97, 98] rfl (by decide) (Row.of_own hown1')
  have e1 : ((str [8, 172, 2, 18, 2, 97, 98]).toList == [8, 172, 2, 18, 2, 97, 98]) = true := by rw [str_toList]; decide
  have HB1 := hide (show Le w w1 from hb.trans (hLX.trans hb1))
  clear hown1 hown1' hb1 hXrow hrow
  go_wp2_with fail
  refine (putvalue_any w1 false (-1) ⟨#[]⟩ (by unfold I64; omega) (by decide)).mono ?_
  rintro e w2 ⟨v2, rfl, hown2, hb2⟩
  rw [show byt ⟨#[]⟩ = [] from rfl, exV_enc] at hown2
  have hown2' : w2.ownsRow w1.heap.size 5 1 v2 6 (u8s [8, 0, 16, 1, 26, 0]) := hown2
  obtain ⟨A2, c2, rfl, -, -⟩ := own_form hown2'
  have q2 := conv8 w2 _ A2 6 c2 [8, 0, 16, 1, 26, 0] rfl (by decide) (Row.of_own hown2')
  have e2 : ((str [8, 0, 16, 1, 26, 0]).toList == [8, 0, 16, 1, 26, 0]) = true := by rw [str_toList]; decide
  have HB2 := hide (show Le w w2 from HB1.out.trans hb2)
  clear hown2 hown2' hb2 q1
  go_wp2_with fail
  go_ret
  exact ⟨rfl, HB2.out⟩
#print axioms shown_any
end Go.Proofs.YtjliocbdidiemaaDoor
