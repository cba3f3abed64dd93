/-
  slices.Clone, walked: the same elements in new memory.
-/
import Derived.Test.YtjedpjfmlaganaaDoorChecked
import Derived.Test.YtjedpjfmlaganaaDoorMem
namespace Go.Proofs.YtjedpjfmlaganaaDoor
open Go.RowKit
set_option linter.unusedVariables false

theorem infocR : (Tryd.prog.info? 43).map (fun i => (i.zero, i.size, i.bytes)) = some (some (.agg #[.bool false, .int .i64 0, .string ⟨#[]⟩]), 3, 32) := by kernel_rfl
set_option maxRecDepth 100000 in
set_option maxHeartbeats 400000 in
theorem cloneR_any (w : World) (A : Option Addr) (n c : Nat) (xs : List Value) (hl : xs.length = n * 3) (h1 : ∀ u ∈ xs, u.oneCell' = true) (hn : n * 32 ≤ 140737488355328) (hr : Row w w.heap.size A xs) :
    Calls Tryd.prog 37 #[.slice A n c] w (Gives w.heap.size 43 3 n xs w) := by
  have q := fun W => Lib.run_eql_slice_nil (P := Tryd.prog) W 35 43 A n c 0 0 Tryd.underlying35
  rcases A with _ | ad
  · have h0 : xs = [] := by
      rcases xs with _ | ⟨x, l⟩
      · rfl
      · obtain ⟨b, o, h, _⟩ := hr (by simp)
        cases h
    subst h0
    have hn0 : n = 0 := by simp at hl; omega
    subst hn0
    go_enter Tryd.func37, Tryd.ntmps37
    go_wp2_with fail
    go_ret
    exact ⟨_, rfl, World.ownsRow_nil _ _ _ _, Below.refl _ _⟩
  · have HL := hide hl
    have H1 := hide h1
    clear hl h1
    go_enter Tryd.func37, Tryd.ntmps37
    go_wp2_with (at_builtin; refine wpList_append_row _ rfl (.tmp 5) (.tmp 6) 35 rfl w.heap.size 43 infocR Tryd.underlying35 rfl (by omega) _ 0 [] rfl (World.ownsRow_lit _ #[] 0 (Nat.le_refl _) (by simp) rfl) w.heap.size (some ad) n c xs rfl HL.out (hr.alloc (Nat.le_refl _) _) H1.out (by simp only [maxLen]; omega) (by omega) (by simp) ?_; intro v w1 hown hg hat)
    go_ret
    exact ⟨v, rfl, by simpa using hown, ((Below.refl _ _).alloc (Nat.le_refl _) _).grown hg (by simp) (fun g hg => blk_ge hg (Nat.le_refl _))⟩
#print axioms cloneR_any
end Go.Proofs.YtjedpjfmlaganaaDoor
