/-
  What is known of values, by the document: a sum, walked (XStE, loose from the program's).
-/
import Derived.Test.YtklgmojojgoaeaaDoorOuM
import Derived.Test.YtklgmojojgoaeaaDoorRowV
import Derived.Test.YtklgmojojgoaeaaDoorBox
namespace Go.Proofs.YtklgmojojgoaeaaDoor.st
open Go va
def hsum (l : List Int) : Int := (l.map (· / 4294967296)).sum
def lsum (l : List Int) : Int := (l.map (· % 4294967296)).sum
theorem sum_parts : ∀ l : List Int, hsum l * 4294967296 + lsum l = l.sum
  | [] => rfl
  | x :: l => by
    have ih := sum_parts l
    simp only [hsum, lsum, List.map_cons, List.sum_cons] at ih ⊢
    omega
theorem hsum_snoc {l : List Int} {k : Nat} {x : Int} (h : l[k]? = some x) : hsum (l.take (k + 1)) = hsum (l.take k) + x / 4294967296 := by
  rw [List.take_add_one, h]
  simp [hsum]
theorem lsum_snoc {l : List Int} {k : Nat} {x : Int} (h : l[k]? = some x) : lsum (l.take (k + 1)) = lsum (l.take k) + x % 4294967296 := by
  rw [List.take_add_one, h]
  simp [lsum]
theorem parts_in : ∀ l : List Int, (∀ x ∈ l, In x) → 0 ≤ lsum l ∧ lsum l ≤ 4294967295 * l.length ∧ -2147483648 * (l.length : Int) ≤ hsum l ∧ hsum l ≤ 2147483647 * (l.length : Int)
  | [], _ => by simp [lsum, hsum]
  | x :: l, h => by
    have ih := parts_in l (fun y hy => h y (by simp [hy]))
    have hx := h x (by simp)
    unfold In at hx
    simp only [hsum, lsum, List.map_cons, List.sum_cons, List.length_cons] at ih ⊢
    omega
/-- The numbers of those that are something. -/
def nums (l : List Val) : List Int := (l.filter fun v => !v.nul).map (·.n)
theorem nums_nul {l : List Val} {k : Nat} {v : Val} (h : l[k]? = some v) (hn : v.nul = true) : nums (l.take (k + 1)) = nums (l.take k) := by
  rw [List.take_add_one, h]
  simp [nums, hn]
theorem nums_some {l : List Val} {k : Nat} {v : Val} (h : l[k]? = some v) (hn : v.nul = false) : nums (l.take (k + 1)) = nums (l.take k) ++ [v.n] := by
  rw [List.take_add_one, h]
  simp [nums, hn]
theorem acc_sum : ∀ (l : List Val) (a : Acc), (l.foldl step a).t = a.t + (nums l).sum ∧ (l.foldl step a).c = a.c + (nums l).length
  | [], a => by simp [nums]
  | v :: l, a => by
    have ih := acc_sum l (step a v)
    rw [List.foldl_cons]
    cases hn : v.nul with
    | true =>
      have e : nums (v :: l) = nums l := by simp [nums, hn]
      rw [e, ih.1, ih.2, step_nul hn]
      exact ⟨rfl, rfl⟩
    | false =>
      have e : nums (v :: l) = v.n :: nums l := by simp [nums, hn]
      rw [e, ih.1, ih.2, step_some hn]
      simp only [List.sum_cons, List.length_cons]
      omega
theorem acc_nums (l : List Val) : (acc l).t = (nums l).sum ∧ (acc l).c = (nums l).length := by
  have := acc_sum l start
  simpa [acc, start] using this
end Go.Proofs.YtklgmojojgoaeaaDoor.st
namespace Go.Proofs.YtklgmojojgoaeaaDoor
open Go.RowKit
set_option linter.unusedVariables false

theorem box3 (w : World) (cs ds es : Array Value) (t u v : TypeId) : ∃ W, ((w.alloc (.cells cs t)).alloc (.cells ds u)).alloc (.cells es v) = W ∧ Box W w.heap.size cs t ∧ Box W (w.heap.size + 1) ds u ∧ Box W (w.heap.size + 1 + 1) es v ∧ Below w.heap.size w W ∧ W.heap.size = w.heap.size + 3 := by
  refine ⟨_, rfl, ((box_new _ _ _).alloc _).alloc _, ?_, ?_, (((Below.refl _ _).alloc (Nat.le_refl _) _).alloc (by simp) _).alloc (by simp; omega) _, by simp⟩
  · have h := box_new (w.alloc (.cells cs t)) ds u
    have e : (w.alloc (.cells cs t)).heap.size = w.heap.size + 1 := by simp
    rw [e] at h
    exact h.alloc _
  · have h := box_new ((w.alloc (.cells cs t)).alloc (.cells ds u)) es v
    have e : ((w.alloc (.cells cs t)).alloc (.cells ds u)).heap.size = w.heap.size + 1 + 1 := by simp
    rw [e] at h
    exact h

theorem cells_one (s : st.St) : (st.cells s).all (·.oneCell') = true := by simp [st.cells, Value.oneCell']
def stz : st.St := ⟨0, false, ⟨false, 0, ⟨#[]⟩⟩, ⟨false, 0, ⟨#[]⟩⟩, 0, false⟩
theorem ofAcc_nul {a : st.Acc} {v : va.Val} (h : v.nul = true) : st.ofAcc (st.step a v) = { st.ofAcc a with hn := true } := by rw [st.step_nul h]; rfl
theorem ofAcc_some {a : st.Acc} {v : va.Val} (h : v.nul = false) : st.ofAcc (st.step a v) = { st.ofAcc a with c := (st.ofAcc a).c + 1, mn := st.best (-1) (st.ofAcc a).mn v, mx := st.best 1 (st.ofAcc a).mx v } := by
  rw [st.step_some h, st.best_low h, st.best_high h]
  simp [st.ofAcc]
theorem acc_t {l : List va.Val} {n : Nat} (hl : l.length ≤ n) (hn : n ≤ 600) (h : ∀ v ∈ l, st.In v.n) : (-18889465931478580854784 ≤ (st.acc l).t ∧ (st.acc l).t ≤ 18889465931478580854784) ∧ (st.acc l).c ≤ 600 := by
  have := st.acc_in h
  omega

theorem i64_and32 (n : Int) : bits .and .i64 n 4294967295 = n % 4294967296 := by
  have h127 : (BitVec.ofInt 64 4294967295).toNat = 2 ^ 32 - 1 := by decide
  have key : (BitVec.ofInt 64 n &&& BitVec.ofInt 64 4294967295).toNat = (n % ((2 ^ 64 : Nat) : Int)).toNat % 2 ^ 32 := by
    rw [BitVec.toNat_and, BitVec.toNat_ofInt, h127, Nat.and_two_pow_sub_one_eq_mod]
  show IntKind.i64.wrap ((BitVec.ofInt 64 n &&& BitVec.ofInt 64 4294967295).toNat : Nat) = n % 4294967296
  rw [key, IntKind.wrap_i64]
  omega
/-- Numbers, as cells. -/
def nis (l : List Int) : List Value := l.map (Value.int .i64)
theorem nis_at {l : List Int} {k : Nat} {x : Int} (h : l[k]? = some x) : (nis l)[k]? = some (.int .i64 x) := by simp [nis, h]

set_option maxRecDepth 100000 in
set_option maxHeartbeats 1000000 in
theorem refsum_any (w : World) (A : Option Addr) (n c : Nat) (l : List Int) (hl : l.length = n) (hn : n ≤ 600) (hin : ∀ x ∈ l, st.In x) (hr : Row w w.heap.size A (nis l)) :
    Calls Tryd.prog 38 #[.slice A n c] w fun e w' => e = .returned (.tuple #[.int .i64 (st.sumOf l.sum).1, .bool (!(st.sumOf l.sum).2)]) ∧ w = w' := by
  have HL := hide hl
  have HIN := hide hin
  obtain ⟨T, hT⟩ : ∃ T, l.sum = T := ⟨_, rfl⟩
  rw [hT]
  obtain ⟨⟨sm, ov⟩, hso⟩ : ∃ p, st.sumOf T = p := ⟨_, rfl⟩
  rw [hso]
  have HSO := hide hso
  have HT := hide hT
  clear hl hin hT hso
  go_enter Tryd.func38, Tryd.ntmps38
  go_wp2_with fail
  go_loop [4, 5, 6] (fun h o i => ∃ k : Nat, k ≤ n ∧ i = .int .i64 k ∧ h = .int .i64 (st.hsum (l.take k)) ∧ o = .int .i64 (st.lsum (l.take k))) (fun _ _ i => n - (intOf i).toNat)
  case atStart => exact ⟨0, Nat.zero_le _, rfl, rfl, rfl⟩
  case round =>
    obtain ⟨k, hk, rfl, rfl, rfl⟩ := hrel
    have hp := st.parts_in (l.take k) (fun x hx => HIN.out x (List.mem_of_mem_take hx))
    rw [List.length_take, HL.out, Nat.min_eq_left hk] at hp
    by_cases hkn : k < n
    · obtain ⟨x, hx⟩ : ∃ x, l[k]? = some x := ⟨_, List.getElem?_eq_getElem (by rw [HL.out]; exact hkn)⟩
      obtain ⟨bA, oA, rfl, hbA, hc0⟩ := hr.at_ (nis_at hx)
      have hxi := HIN.out x (List.mem_of_getElem? hx)
      have HH := hide (st.hsum_snoc hx)
      have HLO := hide (st.lsum_snoc hx)
      obtain ⟨H, hH⟩ : ∃ H, st.hsum (l.take k) = H := ⟨_, rfl⟩
      obtain ⟨L, hL⟩ : ∃ L, st.lsum (l.take k) = L := ⟨_, rfl⟩
      rw [hH] at hp HH ⊢
      rw [hL] at hp HLO ⊢
      have HP := hide hp
      have HXI := hide hxi
      clear hx hH hL hp hxi
      go_wp2_with fail
      have hp := HP.out
      have hxi := HXI.out
      unfold st.In at hxi
      have e1 : wrap64 (H + x / 4294967296) = H + x / 4294967296 := by unfold wrap64; omega
      have e2 : wrap64 (x / 4294967296 * 4294967296) = x / 4294967296 * 4294967296 := by unfold wrap64; omega
      have e3 : wrap64 (x - x / 4294967296 * 4294967296) = x % 4294967296 := by unfold wrap64; omega
      have e4 : wrap64 (L + x % 4294967296) = L + x % 4294967296 := by unfold wrap64; omega
      rw [e1, e2, e3, e4]
      exact ⟨⟨k + 1, by omega, by go_num, by rw [HH.out], by rw [HLO.out]⟩, by simp [intOf]; omega⟩
    · obtain rfl : k = n := by omega
      have hall : l.take k = l := List.take_of_length_le (by rw [HL.out]; exact Nat.le_refl _)
      have hsp := st.sum_parts l
      rw [hall] at hp ⊢
      obtain ⟨H, hH⟩ : ∃ H, st.hsum l = H := ⟨_, rfl⟩
      obtain ⟨L, hL⟩ : ∃ L, st.lsum l = L := ⟨_, rfl⟩
      rw [hH, hL, HT.out] at hsp
      rw [hH, hL] at hp ⊢
      have HSP := hide hsp
      have HP := hide hp
      clear hsp hp hH hL hall
      go_wp2_with fail
      all_goals
        have hp := HP.out
        have hsp := HSP.out
        have hso := HSO.out
        have e1 : wrap64 (H + L / 4294967296) = H + L / 4294967296 := by unfold wrap64; omega
        have e2 := i64_and32 L
        simp only [e1] at *
        go_ret2
        by_cases hT : st.In T
        · unfold st.sumOf at hso
          rw [if_pos hT] at hso
          simp only [Prod.mk.injEq] at hso
          obtain ⟨rfl, rfl⟩ := hso
          unfold st.In at hT
          first
            | (exfalso; omega)
            | (have e3 : wrap64 ((H + L / 4294967296) * 4294967296 + bits .and .i64 L 4294967295) = T := by rw [e2]; unfold wrap64; omega
               refine ⟨?_, rfl⟩
               simp [e3])
        · unfold st.sumOf at hso
          rw [if_neg hT] at hso
          simp only [Prod.mk.injEq] at hso
          obtain ⟨rfl, rfl⟩ := hso
          unfold st.In at hT
          first
            | (exfalso; omega)
            | exact ⟨rfl, rfl⟩
#print axioms refsum_any
end Go.Proofs.YtklgmojojgoaeaaDoor
