/-
  Fields that came in, read by their shape; the document's examples of fields; the law on what is laid down, walked.
-/
import Derived.Test.YtjliocbdidiemaaWireE
import Derived.Test.YtjliocbdidiemaaShape
namespace Go.Proofs.Ytjliocbdidiemaa
open Go.RowKit Go.ChangeShapes Go.WideShapes Go.Deep
set_option linter.unusedVariables false

/-- What a field that came in is. -/
def Came (w : World) (B : Nat) (p : FV) : Prop := var.S64 p.1.n ∧ (∀ x ∈ p.1.b, x < 256) ∧ p.1.b.length ≤ p.2.2 ∧ p.2.2 ≤ maxLen ∧ Row w B p.2.1 (u8s p.1.b)
theorem ok_fld {w : World} {B : Nat} {cs : List Value} (h : (Sh.pair 1 (.int .i64) (.pair 1 .bool (.pair 1 (.int .u64) (.pair 1 (.slice 1 (.int .u8)) .unit)))).Ok w B cs) : ∃ p : FV, Came w B p ∧ cs = cellsF p := by
  obtain ⟨c0, r, rfl, h1, h2⟩ := ok_cons h one_of_int
  obtain ⟨c1, r, rfl, h3, h4⟩ := ok_cons h2 one_of_bool
  obtain ⟨c2, r, rfl, h5, h6⟩ := ok_cons h4 one_of_int
  obtain ⟨c3, r, rfl, h7, h8⟩ := ok_cons h6 one_of_slice
  obtain ⟨x, hx, -⟩ := h1
  obtain ⟨b, hb⟩ := h3
  obtain ⟨u, hu, wu⟩ := h5
  obtain ⟨A, len, cap, l, rfl, hl, hnc, hc, -, h8b, hr⟩ := ok_bytes h7
  obtain rfl : r = [] := h8
  simp only [List.cons.injEq, and_true] at hx hb hu
  subst hx
  subst hb
  subst hu
  have hub := bounds_u64 wu
  subst hl
  refine ⟨(⟨x, b, u.toNat, l⟩, A, cap), ⟨by unfold var.S64; simp only; omega, h8b, hnc, hc, hr⟩, ?_⟩
  simp only [cellsF, Int.toNat_of_nonneg hub.1]
theorem ok_flds {w : World} {B : Nat} {v : Value} (h : (Sh.slice 4 (.pair 1 (.int .i64) (.pair 1 .bool (.pair 1 (.int .u64) (.pair 1 (.slice 1 (.int .u8)) .unit))))).Ok w B [v]) :
    ∃ A len cap, ∃ l : List FV, v = .slice A len cap ∧ l.length = len ∧ len ≤ cap ∧ cap ≤ maxLen ∧ (∀ p ∈ l, Came w B p) ∧ Row w B A (fcs l) := by
  obtain ⟨A, len, cap, l, e, hl, hnc, hc, -, hw, hr⟩ := ok_slice cellsF (Came w B) (fun ys hy => ok_fld hy) (fun _ => rfl) h
  exact ⟨A, len, cap, l, e, hl, hnc, hc, hw, hr⟩
theorem came_held {w : World} {B : Nat} {l : List FV} (h : ∀ p ∈ l, Came w B p) : Held w B l := fun p hp => (h p hp).2.2
theorem came_fits {w : World} {B : Nat} {l : List FV} (h : ∀ p ∈ l, Came w B p) : ∀ f ∈ wi.few (l.map (·.1)), wi.Fits f := by
  intro f hf
  obtain ⟨g, hg, rfl⟩ := List.mem_map.1 hf
  obtain ⟨p, hp, rfl⟩ := List.mem_map.1 (List.mem_of_mem_take hg)
  obtain ⟨h1, h2, -⟩ := h p hp
  exact ⟨h1, fun x hx => h2 x (List.mem_of_mem_take hx), by simp only [wi.cut, List.length_take]; omega⟩

theorem v300 : var.vput 300 = [172, 2] := by rw [var.vput_big (by omega), var.vput_small (by omega)]
def exF : List Fld := [⟨1, false, 300, []⟩, ⟨2, true, 0, [97, 98]⟩]
theorem exF_put : wi.put exF = ([8, 172, 2, 18, 2, 97, 98], 0) := by
  have h : wi.put exF = (wi.enc exF, 0) := by unfold wi.put; rw [if_pos (by decide)]
  rw [h]
  simp [wi.enc, exF, wi.encF, v300, var.vput_small]
theorem exV_enc : valE false (-1) [] = [8, 0, 16, 1, 26, 0] := by
  simp [valE, valF, wi.enc, wi.encF, bit, zig, var.vput_small]
theorem exF_fits : ∀ f ∈ exF, wi.Fits f := by
  intro f hf
  simp [exF] at hf
  rcases hf with rfl | rfl
  · exact ⟨show (300 : Nat) < 18446744073709551616 by decide, by simp, by simp⟩
  · exact ⟨show (0 : Nat) < 18446744073709551616 by decide, by decide, by decide⟩

/-- Bytes that are made a row of bytes bear a mark behind their last cell. -/
theorem run_mark (w : World) (C : Array Value) (n c : Nat) : (convert 25 25 (.slice (some ⟨w.heap.size, 0, none⟩) n c)).run Try.prog (w.alloc (.cells C 5)) =
    .ok (.slice (some ⟨w.heap.size, 0, none⟩) n c) (w.alloc (.cells C 5 (C.size, C.size + 1))) := by
  have hsh : (w.alloc (.cells C 5)).shape? w.heap.size = some (5, C.size) := by
    have : (w.alloc (.cells C 5)).heap[w.heap.size]? = some (.cells C 5) := heap_alloc_new _ _
    unfold World.shape?
    rw [this]
  have hfr : ∀ n : Nat, (w.alloc (.cells C 5)).freeze ⟨w.heap.size, n, none⟩ 1 = w.alloc (.cells C 5 (n, n + 1)) := fun n => by
    have hm : ∀ (a : Array Obj) (x : Obj) (f : Obj → Obj), (a.push x).modify a.size f = a.push (f x) := by
      intro a x f
      apply Array.ext
      · simp
      · intro i h1 h2
        simp only [Array.getElem_modify, Array.getElem_push]
        by_cases h : a.size = i
        · subst h
          simp
        · have hi : i < a.size := by simp at h1; omega
          simp [h, hi]
    unfold World.freeze
    rw [if_neg (by decide)]
    show ({ w.alloc (.cells C 5) with heap := (w.heap.push (.cells C 5)).modify w.heap.size _ } : World) = _
    rw [hm]
    rfl
  simp [convert, run_underlying Try.underlying25, run_underlying Try.underlying5, markStringish, hsh]
  exact hfr _

set_option maxRecDepth 100000 in
set_option maxHeartbeats 4000000 in
theorem shown_any (w : World) : Calls Try.prog 6 #[] w fun e w' => e = .returned (.bool true) ∧ Below w.heap.size w w' := by
  go_enter Try.func6, Try.ntmps6
  have qc : (convert 25 25 (.slice (some ⟨w.heap.size, 0, none⟩) 2 2)).run Try.prog (w.alloc (.cells #[.int .u8 97, .int .u8 98] 5)) = .ok (.slice (some ⟨w.heap.size, 0, none⟩) 2 2) (w.alloc (.cells #[.int .u8 97, .int .u8 98] 5 (2, 3))) := run_mark w _ 2 2
  go_wp2_with fail
  clear qc
  obtain ⟨W, hW⟩ : ∃ W, w.alloc (.cells #[.int .u8 97, .int .u8 98] 5 (2, 3)) = W := ⟨_, rfl⟩
  have hrow : Row W W.heap.size (some ⟨w.heap.size, 0, none⟩) (u8s [97, 98]) := by
    rw [← hW]
    exact (row_new w #[.int .u8 97, .int .u8 98] 5 (2, 3)).more (by simp)
  have hb : Le w W := by rw [← hW]; exact (Below.refl _ _).alloc (Nat.le_refl _) _
  have hzW : W.heap.size = w.heap.size + 1 := by rw [← hW]; simp
  rw [hW]
  clear hW
  obtain ⟨X, hX⟩ : ∃ X, W.alloc (.cells #[.int .i64 1, .bool false, .int .u64 300, .slice none 0 0, .int .i64 2, .bool true, .int .u64 0, .slice (some ⟨w.heap.size, 0, none⟩) 2 2] 41) = X := ⟨_, rfl⟩
  have hXrow : Row X X.heap.size (some ⟨W.heap.size, 0, none⟩) (fcs [(⟨1, false, 300, []⟩, none, 0), (⟨2, true, 0, [97, 98]⟩, some ⟨w.heap.size, 0, none⟩, 2)]) := by
    rw [← hX]
    exact (row_new W #[.int .i64 1, .bool false, .int .u64 300, .slice none 0 0, .int .i64 2, .bool true, .int .u64 0, .slice (some ⟨w.heap.size, 0, none⟩) 2 2] 41 (0, 0)).more (by simp)
  have hLX : Le W X := by rw [← hX]; exact (Below.refl _ _).alloc (Nat.le_refl _) _
  rw [hzW] at hXrow
  rw [hX]
  clear hX
  refine (wput_any X _ 2 2 [(⟨1, false, 300, []⟩, none, 0), (⟨2, true, 0, [97, 98]⟩, some ⟨w.heap.size, 0, none⟩, 2)] exF rfl rfl (by omega) exF_fits hXrow (fun p hp => by
    simp at hp
    rcases hp with rfl | rfl
    · exact ⟨by simp, by simp, Row.none_⟩
    · exact ⟨by simp, by unfold maxLen; simp, hrow.le hLX⟩)).mono ?_
  rintro e w1 ⟨v1, rfl, hown1, hb1⟩
  rw [exF_put] at hown1 ⊢
  have hown1' : w1.ownsRow X.heap.size 5 1 v1 7 (u8s [8, 172, 2, 18, 2, 97, 98]) := hown1
  obtain ⟨A1, c1, rfl, -, -⟩ := own_form hown1'
  have q1 := conv8 w1 _ A1 7 c1 [8, 172, 2, 18, 2, 97, 98] rfl (by decide) (Row.of_own hown1')
  have e1 : ((str [8, 172, 2, 18, 2, 97, 98]).toList == [8, 172, 2, 18, 2, 97, 98]) = true := by rw [str_toList]; decide
  have HB1 := hide (show Le w w1 from hb.trans (hLX.trans hb1))
  clear hown1 hown1' hb1 hXrow hrow
  go_wp2_with fail
  refine (putvalue_any w1 false (-1) ⟨#[]⟩ (by unfold I64; omega) (by decide)).mono ?_
  rintro e w2 ⟨v2, rfl, hown2, hb2⟩
  rw [show byt ⟨#[]⟩ = [] from rfl, exV_enc] at hown2
  have hown2' : w2.ownsRow w1.heap.size 5 1 v2 6 (u8s [8, 0, 16, 1, 26, 0]) := hown2
  obtain ⟨A2, c2, rfl, -, -⟩ := own_form hown2'
  have q2 := conv8 w2 _ A2 6 c2 [8, 0, 16, 1, 26, 0] rfl (by decide) (Row.of_own hown2')
  have e2 : ((str [8, 0, 16, 1, 26, 0]).toList == [8, 0, 16, 1, 26, 0]) = true := by rw [str_toList]; decide
  have HB2 := hide (show Le w w2 from HB1.out.trans hb2)
  clear hown2 hown2' hb2 q1
  go_wp2_with fail
  go_ret
  exact ⟨rfl, HB2.out⟩
#print axioms shown_any

set_option maxRecDepth 100000 in
set_option maxHeartbeats 4000000 in
theorem puts_walk (w : World) (A : Option Addr) (n c : Nat) (l : List FV) (hl : l.length = n) (hnc : n ≤ c) (hc : c ≤ maxLen) (hcame : ∀ p ∈ l, Came w w.heap.size p) (hr : Row w w.heap.size A (fcs l)) :
    Calls Try.prog 3 #[.slice A n c] w fun e w' => e = .returned (.bool true) ∧ Below w.heap.size w w' := by
  unfold maxLen at hc
  have hc' : n ≤ 9223372036854775807 := by simp at hc; omega
  have HH := hide (came_held hcame)
  have HF := hide (came_fits hcame)
  have HHc := hide (held_cut HH.out 60)
  have HFS := hide (few_fst l)
  obtain ⟨N, hN⟩ : ∃ N, min n 60 = N := ⟨_, rfl⟩
  have HLN := hide (show ((l.take 60).map cutV).length = N by rw [List.length_map, List.length_take, hl]; omega)
  have hN60 : N ≤ 60 := by omega
  have HN := hide hN
  clear hcame hN
  go_enter Try.func3, Try.ntmps3
  go_wp2_with fail
  refine (shown_any w).mono ?_
  rintro e w1 ⟨rfl, hb1⟩
  have HL1 := hide (show Le w w1 from hb1)
  clear hb1
  go_wp2_with fail
  refine (few_any w1 A n c l hl hc' (hr.le HL1.out) (HH.out.le HL1.out)).mono ?_
  rintro e w2 ⟨v2, rfl, hown2, hb2⟩
  rw [HN.out] at hown2
  generalize hl2 : (l.take 60).map cutV = l2 at hown2 HHc HFS HLN
  generalize hfs2 : wi.few (l.map (·.1)) = fs2 at HF HFS
  obtain ⟨A2, c2, rfl, -, -⟩ := own_form hown2
  have HR2 := hide (Row.of_own hown2)
  have HL12 := hide (show Le w1 w2 from hb2)
  have HH2 := hide (HHc.out.le (HL1.out.trans HL12.out))
  clear hown2 hb2 hl hr hl2 hfs2 HH HHc HN
  go_wp2_with fail
  refine (own_any w2 A2 N c2 l2 HLN.out (by omega) (fun p hp => by
    have := (HF.out p.1 (by rw [← HFS.out]; exact List.mem_map_of_mem hp)).2.2
    omega) HR2.out HH2.out).mono ?_
  rintro e w3 ⟨A3, c3, l3, rfl, hl3, hown3, ⟨hsep3, -⟩, hb3⟩
  have HR3 := hide (Row.of_own hown3)
  have HH3 := hide hsep3.held
  have HL23 := hide (show Le w2 w3 from hb3)
  have HF3 := hide (hl3.trans HFS.out)
  have HLN3 := hide (show l3.length = N by have h := congrArg List.length hl3; rw [List.length_map, List.length_map, HLN.out] at h; exact h)
  clear hown3 hsep3 hb3 hl3
  go_wp2_with fail
  refine (wput_any w3 A3 N c3 l3 fs2 HF3.out HLN3.out (by omega) HF.out HR3.out HH3.out).mono ?_
  rintro e w4 ⟨v4, rfl, hown4, hb4⟩
  have H8 := hide (wi.put8 HF.out)
  obtain ⟨E, hE⟩ : ∃ E, (wi.put fs2).2 = E := ⟨_, rfl⟩
  obtain ⟨R, hR⟩ : ∃ R, (wi.put fs2).1 = R := ⟨_, rfl⟩
  rw [hR] at hown4 H8
  rw [hE]
  have HE := hide hE
  have HR := hide hR
  obtain ⟨A4, c4, rfl, -, -⟩ := own_form hown4
  have HR4 := hide (Row.of_own hown4)
  have HL34 := hide (show Le w3 w4 from hb4)
  have HL24 := hide (HL23.out.trans HL34.out)
  clear hown4 hb4 hE hR
  go_wp2_with fail
  refine (refwput_any w4 A2 N c2 l2 fs2 HFS.out HLN.out (by omega) HF.out (HR2.out.le HL24.out) (HH2.out.le HL24.out)).mono ?_
  rintro e w5 ⟨v5, rfl, hown5, hb5⟩
  rw [HR.out] at hown5
  rw [HE.out]
  obtain ⟨A5, c5, rfl, -, -⟩ := own_form hown5
  have HL45 := hide (show Le w4 w5 from hb5)
  have q4 := conv8 w5 _ A4 R.length c4 R rfl H8.out (HR4.out.le HL45.out)
  have q5 := conv8 w5 _ A5 R.length c5 R rfl H8.out (Row.of_own hown5)
  have HBF := hide (show Below w.heap.size w w5 from HL1.out.trans (HL12.out.trans (HL24.out.trans HL45.out)))
  clear hown5 hb5
  go_wp2_with fail
  go_ret
  exact ⟨rfl, HBF.out⟩
#print axioms puts_walk
end Go.Proofs.Ytjliocbdidiemaa
