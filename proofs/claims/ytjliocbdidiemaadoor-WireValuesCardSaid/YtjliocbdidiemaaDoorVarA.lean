/-
  The walk of Put: a number's bytes behind other bytes, in new memory; and the document's.
-/
import Derived.Test.YtjliocbdidiemaaDoorConcat8
import Derived.Test.YtjliocbdidiemaaDoorRegion
import Derived.Test.YtjliocbdidiemaaDoorVarMath
namespace Go.Proofs.YtjliocbdidiemaaDoor
open Go.RowKit
set_option linter.unusedVariables false

theorem or128 (x : Nat) : bits .or .u8 ((x : Int) % 256) 128 = ((x % 128 + 128 : Nat) : Int) := by
  have h : ∀ y : Fin 256, y.val ||| 128 = y.val % 128 + 128 := by decide +kernel
  have e : ((x : Int) % 256) = ((x % 256 : Nat) : Int) := by omega
  rw [e]
  have := u8_or_nat (x % 256) 128 (by omega) (by omega)
  have h2 := h ⟨x % 256, by omega⟩
  simp only at h2
  rw [h2] at this
  rw [show x % 128 + 128 = x % 256 % 128 + 128 by omega]
  exact this

theorem put_world (wr : World) (A : Option Addr) (n c : Nat) (A1 : Option Addr) (m c1 : Nat) (y : Int) (l l1 : List Value) (B : Nat) (hB : B ≤ wr.heap.size) (hr : Row wr B A l) (hr1 : Row wr wr.heap.size A1 l1) :
    ∃ X, (wr.alloc (Obj.cells #[Value.int .u8 y] 5)).alloc (Obj.cells #[Value.slice A n c, Value.slice A1 m c1, Value.slice (some ⟨wr.heap.size, 0, none⟩) 1 1] 22) = X ∧ X.heap.size = wr.heap.size + 2 ∧ Le wr X ∧
      Row X X.heap.size (some ⟨wr.heap.size + 1, 0, none⟩) [Value.slice A n c, Value.slice A1 m c1, Value.slice (some ⟨wr.heap.size, 0, none⟩) 1 1] ∧ Row X X.heap.size A l ∧ Row X X.heap.size A1 l1 ∧ Row X X.heap.size (some ⟨wr.heap.size, 0, none⟩) [Value.int .u8 y] := by
  refine ⟨_, rfl, by simp, ((Le.refl _).alloc (Nat.le_refl _) _).alloc (by simp) _, ?_, ?_, ?_, ?_⟩
  · have := row_new (wr.alloc (Obj.cells #[Value.int .u8 y] 5)) #[Value.slice A n c, Value.slice A1 m c1, Value.slice (some ⟨wr.heap.size, 0, none⟩) 1 1] 22 (0, 0)
    simp only [World.size_alloc] at this
    exact this.more (by simp)
  · exact ((hr.alloc hB _).alloc (by simp; omega) _).more (by simp; omega)
  · exact ((hr1.alloc (Nat.le_refl _) _).alloc (by simp) _).more (by simp; omega)
  · exact ((row_one _ _ _ _).alloc (by simp) _).more (by simp)

set_option maxRecDepth 100000 in
set_option maxHeartbeats 2000000 in
theorem put_any (w : World) (A : Option Addr) (n c : Nat) (l : List Nat) (x : Nat) (hl : l.length = n) (hn : n ≤ 1000000000) (hr : Row w w.heap.size A (u8s l)) (hx : (var.vput x).length ≤ 10) :
    Calls Tryd.prog 40 #[.slice A n c, .int .u64 (x : Int)] w (Gives w.heap.size 5 1 (n + (var.vput x).length) (u8s (l ++ var.vput x)) w) := by
  have HX := hide hx
  have HL := hide hl
  clear hx hl
  go_enter Tryd.func40, Tryd.ntmps40
  go_wp2_with fail
  go_loopw [1, 5] (fun a v wr => ∃ (y m : Nat) (p : List Nat), a = .int .u64 (y : Int) ∧ p.length = m ∧ p ++ var.vput y = var.vput x ∧ wr.ownsRow w.heap.size 5 1 v m (u8s p) ∧ Below w.heap.size w wr) (fun a _ _ => (intOf a).toNat)
  case atStart => exact ⟨x, 0, [], rfl, rfl, rfl, World.ownsRow_nil _ _ _ _, Below.refl _ _⟩
  case round =>
    obtain ⟨y, m, p, rfl, hpm, hpx, hown, hb⟩ := hrel
    have hz := hb.size
    have hm10 : m + 1 ≤ 10 := by
      have h1 := congrArg List.length hpx
      rw [List.length_append, hpm] at h1
      have h2 : 0 < (var.vput y).length := List.length_pos_iff.2 (var.vput_ne y)
      have := HX.out
      omega
    have HPM := hide hpm
    have HPX := hide hpx
    clear hpm hpx
    by_cases hy : 128 ≤ y
    · have h0 := or128 y
      go_wp2_with (at_builtin; refine wpList_append_row _ rfl (.tmp 10) (.tmp 14) 22 rfl w.heap.size 5 info8 Tryd.underlying22 rfl (by omega) _ m _ rfl (hown.alloc _) _ (some ⟨wr.heap.size, 0, none⟩) 1 1 [_] rfl rfl (row_one _ _ _ _) (one_int _ _) (by simp only [maxLen]; omega) (by omega) (by simp; omega) ?_; intro v' w' hown' hg hat)
      refine ⟨⟨y / 128, m + 1, p ++ [y % 128 + 128], by go_num, by simp [HPM.out], ?_, ?_, (hb.alloc hz _).grown hg (by simp; omega) (fun g hg => own_ge hown hg (Nat.le_refl _))⟩, by simp [intOf]; omega⟩
      · rw [← HPX.out, var.vput_big hy]; simp
      · simpa [u8s] using hown'
    · obtain ⟨A1, c1, rfl, hc1, -⟩ := own_form hown
      obtain ⟨X, hX, hXs, hLX, hrT, hrA, hr1, hr2⟩ := put_world wr A n c A1 m c1 (y : Int) (u8s l) (u8s p) w.heap.size hz (hr.below hb (Nat.le_refl _)) (Row.of_own hown)
      have HXX := hide hX
      clear hX
      go_wp2_with fail
      rw [HXX.out]
      have hvy : var.vput y = [y] := var.vput_small (by omega)
      have e := HPX.out
      rw [hvy] at e
      refine (concat8_any X _ 3 3 [⟨A, n, c, u8s l⟩, ⟨A1, m, c1, u8s p⟩, ⟨some ⟨wr.heap.size, 0, none⟩, 1, 1, [.int .u8 (y : Int)]⟩] rfl (by omega) hrT ?_ ?_).mono ?_
      · intro q hq
        simp only [List.mem_cons, List.not_mem_nil, or_false] at hq
        rcases hq with rfl | rfl | rfl
        · exact ⟨by simp [u8s_len, HL.out], u8s_one, hrA⟩
        · exact ⟨by simp [u8s_len, HPM.out], u8s_one, hr1⟩
        · exact ⟨rfl, one_int _ _, hr2⟩
      · simp [lens8]; omega
      · rintro E w1 ⟨v1, rfl, hown1, hb1⟩
        have e1 : lens8 [⟨A, n, c, u8s l⟩, ⟨A1, m, c1, u8s p⟩, ⟨some ⟨wr.heap.size, 0, none⟩, 1, 1, [.int .u8 (y : Int)]⟩] = n + (var.vput x).length := by
          rw [← e]; simp [lens8, HPM.out]
        have e2 : all8 [⟨A, n, c, u8s l⟩, ⟨A1, m, c1, u8s p⟩, ⟨some ⟨wr.heap.size, 0, none⟩, 1, 1, [.int .u8 (y : Int)]⟩] = u8s (l ++ var.vput x) := by
          rw [← e]; simp [all8, u8s]
        rw [e1, e2] at hown1
        go_wp2_with fail
        go_ret
        exact ⟨_, rfl, own_more hown1 (by omega), (hb.trans (Below.mono hLX hz)).trans (hb1.mono (by omega))⟩
#print axioms put_any
end Go.Proofs.YtjliocbdidiemaaDoor
