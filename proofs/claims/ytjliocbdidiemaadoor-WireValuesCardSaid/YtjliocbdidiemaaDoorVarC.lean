/-
  The walks of the document's Put and Take.
-/
import Derived.Test.YtjliocbdidiemaaDoorVarB
namespace Go.Proofs.YtjliocbdidiemaaDoor
open Go.RowKit
set_option linter.unusedVariables false

theorem div64 {y : Nat} (h : var.S64 y) : IntKind.u64.wrap ((y : Int) / 128) = ((y / 128 : Nat) : Int) := by
  unfold var.S64 at h
  rw [IntKind.wrap_u64]; omega

set_option maxRecDepth 100000 in
set_option maxHeartbeats 2000000 in
theorem refput_any (w : World) (A : Option Addr) (n c : Nat) (l : List Nat) (x : Nat) (hl : l.length = n) (hn : n ≤ 1000000000) (hr : Row w w.heap.size A (u8s l)) (h64 : var.S64 x) :
    Calls Tryd.prog 42 #[.slice A n c, .int .u64 (x : Int)] w (Gives w.heap.size 5 1 (n + (var.vput x).length) (u8s (l ++ var.vput x)) w) := by
  have HX := hide (var.vput_len10 h64)
  have HL := hide hl
  clear hl
  go_enter Tryd.func42, Tryd.ntmps42
  go_wp2_with (at_builtin; refine wpList_append_row _ rfl (.tmp 6) (.tmp 7) 22 rfl w.heap.size 5 info8 Tryd.underlying22 rfl (by omega) _ 0 [] rfl (World.ownsRow_lit _ #[] 0 (Nat.le_refl _) (by simp) rfl) w.heap.size A n c (u8s l) rfl (by rw [u8s_len, HL.out, Nat.mul_one]) (hr.alloc (Nat.le_refl _) _) u8s_one (by simp only [maxLen]; omega) (by omega) (by simp) ?_; intro v0 w0 hown0 hg0 hat0)
  rw [Nat.zero_add, List.nil_append] at hown0
  have hb0 : Below w.heap.size w w0 := ((Below.refl _ _).alloc (Nat.le_refl _) _).grown hg0 (by simp) (fun g hg => blk_ge hg (Nat.le_refl _))
  clear hg0 hat0
  go_loopw [1, 5] (fun a v wr => ∃ (y m : Nat) (p : List Nat), a = .int .u64 (y : Int) ∧ var.S64 y ∧ p.length = m ∧ p ++ var.vput y = var.vput x ∧ wr.ownsRow w.heap.size 5 1 v (n + m) (u8s (l ++ p)) ∧ Below w.heap.size w wr) (fun a _ _ => (intOf a).toNat)
  case atStart => exact ⟨x, 0, [], rfl, h64, rfl, rfl, by simpa using hown0, hb0⟩
  case round =>
    obtain ⟨y, m, p, rfl, hy64, hpm, hpx, hown, hb⟩ := hrel
    have hz := hb.size
    have hm10 : m + 1 ≤ 10 := by
      have h1 := congrArg List.length hpx
      rw [List.length_append, hpm] at h1
      have h2 : 0 < (var.vput y).length := List.length_pos_iff.2 (var.vput_ne y)
      have := HX.out
      omega
    have HPM := hide hpm
    have HPX := hide hpx
    clear hpm hpx hb0 hown0
    have hdiv := div64 hy64
    have H64 := hide hy64
    clear hy64
    by_cases hy : 128 ≤ y
    · go_wp2_with (at_builtin; refine wpList_append_row _ rfl (.tmp 11) (.tmp 16) 22 rfl w.heap.size 5 info8 Tryd.underlying22 rfl (by omega) _ (n + m) _ rfl (hown.alloc _) _ (some ⟨wr.heap.size, 0, none⟩) 1 1 [_] rfl rfl (row_one _ _ _ _) (one_int _ _) (by simp only [maxLen]; omega) (by omega) (by simp; omega) ?_; intro v' w' hown' hg hat)
      refine ⟨⟨y / 128, m + 1, p ++ [y % 128 + 128], rfl, H64.out.div 128, by simp [HPM.out], ?_, ?_, (hb.alloc hz _).grown hg (by simp; omega) (fun g hg => own_ge hown hg (Nat.le_refl _))⟩, by simp [intOf]; omega⟩
      · rw [← HPX.out, var.vput_big hy]; simp
      · have e : u8s (l ++ (p ++ [y % 128 + 128])) = u8s (l ++ p) ++ [Value.int .u8 ((y : Int) % 128 + 128)] := by simp [u8s]
        rw [e]
        exact hown'
    · have hvy : var.vput y = [y] := var.vput_small (by omega)
      have e := HPX.out
      rw [hvy] at e
      have E := hide e
      clear e hvy
      go_wp2_with (at_builtin; refine wpList_append_row _ rfl (.tmp 20) (.tmp 23) 22 rfl w.heap.size 5 info8 Tryd.underlying22 rfl (by omega) _ (n + m) _ rfl (hown.alloc _) _ (some ⟨wr.heap.size, 0, none⟩) 1 1 [_] rfl rfl (row_one _ _ _ _) (one_int _ _) (by simp only [maxLen]; omega) (by omega) (by simp; omega) ?_; intro v' w' hown' hg hat)
      go_ret
      refine ⟨_, rfl, ?_, (hb.alloc hz _).grown hg (by simp; omega) (fun g hg => own_ge hown hg (Nat.le_refl _))⟩
      have e1 : n + (var.vput x).length = n + m + 1 := by rw [← E.out]; simp [HPM.out]; omega
      have e2 : u8s (l ++ var.vput x) = u8s (l ++ p) ++ [Value.int .u8 (y : Int)] := by rw [← E.out]; simp [u8s]
      rw [e1, e2]
      exact hown'
#print axioms refput_any
end Go.Proofs.YtjliocbdidiemaaDoor
