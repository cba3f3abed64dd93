/-
  The document's example of what is seen, walked.
-/
import Derived.Test.YtjedpjfmlaganaaDoorVwO
namespace Go.Proofs.YtjedpjfmlaganaaDoor.vw
set_option maxRecDepth 100000
open Go.RowKit
set_option linter.unusedVariables false

def exRows : List Kd := [⟨⟨1, 0, 0⟩, none, 0, 0, []⟩, ⟨⟨2, 0, 0⟩, none, 0, 0, []⟩, ⟨⟨3, 0, 0⟩, none, 0, 0, []⟩]
def exGone : List Gn := [⟨⟨1, 0, 0⟩, 2⟩, ⟨⟨2, 0, 0⟩, 3⟩]
theorem ex_seen : (exRows.filter (seen 2 [] exGone)).map cont = [(⟨2, 0, 0⟩, [])] := by rfl
theorem ex_firsts {S : List Kd} (h : Firsts Prod.fst ((exRows.filter (seen 2 [] exGone)).map cont) (S.map cont)) : ∃ x, S = [x] ∧ x.k = ⟨2, 0, 0⟩ := by
  rw [ex_seen] at h
  have h2 : Firsts (key := Prod.fst) [((⟨2, 0, 0⟩ : Ke), ([] : List va.Val))] [((⟨2, 0, 0⟩ : Ke), ([] : List va.Val))] := by
    have := firsts_foldl (key := Prod.fst) [((⟨2, 0, 0⟩ : Ke), ([] : List va.Val))]
    exact this
  have e := firsts_one h h2
  cases S with
  | nil => simp at e
  | cons x S =>
    cases S with
    | nil =>
      simp [cont] at e
      exact ⟨x, rfl, e.1⟩
    | cons y S => simp at e
theorem ke_wf (a b c : Int) (h1 : (Lit.int .i64 a).wf = true) (h2 : (Lit.int .i64 b).wf = true) (h3 : (Lit.int .i64 c).wf = true) : KeWf ⟨a, b, c⟩ := ⟨h1, h2, h3⟩
set_option maxRecDepth 100000 in
set_option maxHeartbeats 4000000 in
theorem shown_any (w : World) : Calls Tryd.prog 5 #[] w fun e w' => e = .returned (.bool true) ∧ Le w w' := by
  obtain ⟨X1, hX1, hr1, hl1⟩ : ∃ X, w.alloc (.cells #[.int .i64 1, .int .i64 0, .int .i64 0, .slice none 0 0, .int .i64 2, .int .i64 0, .int .i64 0, .slice none 0 0, .int .i64 3, .int .i64 0, .int .i64 0, .slice none 0 0] 37) = X ∧ Row X X.heap.size (some ⟨w.heap.size, 0, none⟩) (kcs exRows) ∧ Le w X := ⟨_, rfl, (row_new w _ _ (0, 0)).more (by simp), (Below.refl _ _).alloc (Nat.le_refl _) _⟩
  obtain ⟨X2, hX2, hr2, hl2⟩ : ∃ X, X1.alloc (.cells #[.int .i64 1, .int .i64 0, .int .i64 0, .int .i64 2, .int .i64 2, .int .i64 0, .int .i64 0, .int .i64 3] 47) = X ∧ Row X X.heap.size (some ⟨X1.heap.size, 0, none⟩) (gcs exGone) ∧ Le X1 X := ⟨_, rfl, (row_new X1 _ _ (0, 0)).more (by simp), (Below.refl _ _).alloc (Nat.le_refl _) _⟩
  have hzz : X1.heap.size = w.heap.size + 1 := by rw [← hX1]; simp
  rw [hzz] at hr2
  have hof := hide (of_any X2 2 none 0 0 [] rfl (by omega) Row.none_ (some ⟨w.heap.size, 0, none⟩) 3 3 exRows rfl (by omega) ((hl2.row hr1 (Nat.le_refl _)).more hl2.size) (fun x hx => by
    have hk : x.vals = [] ∧ x.n = 0 := by
      unfold exRows at hx
      simp only [List.mem_cons, List.not_mem_nil, or_false] at hx
      rcases hx with rfl | rfl | rfl <;> exact ⟨rfl, rfl⟩
    refine ⟨⟨by rw [hk.1, hk.2]; rfl, by rw [hk.2]; omega, by rw [hk.1]; exact Row.none_⟩, ?_⟩
    unfold exRows at hx
    simp only [List.mem_cons, List.not_mem_nil, or_false] at hx
    rcases hx with rfl | rfl | rfl <;> exact ke_wf _ _ _ (by decide) (by decide) (by decide)) (some ⟨w.heap.size + 1, 0, none⟩) 2 2 exGone rfl (by omega) hr2 (fun g hg => by
    unfold exGone at hg
    simp only [List.mem_cons, List.not_mem_nil, or_false] at hg
    rcases hg with rfl | rfl <;> exact ke_wf _ _ _ (by decide) (by decide) (by decide)))
  have HX1 := hide hX1
  have HX2 := hide hX2
  have HL := hide (hl1.trans hl2)
  clear hX1 hX2 hr1 hr2 hl1 hl2 hzz
  go_enter Tryd.func5, Tryd.ntmps5
  go_wp2_with fail
  rw [HX1.out, HX2.out]
  refine hof.out.mono ?_
  rintro e w1 ⟨A, n, c, S, rfl, h1, h2, h3, h4, h5, h6⟩
  obtain ⟨x, rfl, hxk⟩ := ex_firsts h3
  obtain rfl : n = 1 := h1.symm
  obtain ⟨b, o, rfl, hb, c0, c1, c2, c3⟩ := row_kd (l := [x]) (k := 0) (Row.of_own h4) rfl
  rw [hxk] at c0 c1 c2
  simp only [Nat.zero_mul, Nat.add_zero] at c0 c1 c2
  have HF := hide (HL.out.trans h6)
  clear h1 h2 h3 h4 h5 h6 hof c3
  go_wp2_with fail
  go_ret
  exact ⟨rfl, HF.out⟩
#print axioms shown_any
end Go.Proofs.YtjedpjfmlaganaaDoor.vw
