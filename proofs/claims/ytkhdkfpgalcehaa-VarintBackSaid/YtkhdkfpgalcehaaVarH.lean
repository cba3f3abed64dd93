/-
  Numbers with a sign or without, put and taken, walked; and the law on what is taken.
-/
import Derived.Test.YtkhdkfpgalcehaaVarF
namespace Go.Proofs.Ytkhdkfpgalcehaa
open Go.RowKit
set_option linter.unusedVariables false

theorem few_any (w : World) (A : Option Addr) (n c : Nat) (hnc : n ≤ c) (hc : c ≤ maxLen) :
    Calls Try.prog 15 #[.slice A n c] w fun e w' => e = .returned (.slice A (min n 300) c) ∧ w = w' := by
  unfold maxLen at hc
  by_cases h : 300 < n
  · rw [Nat.min_eq_right (by omega)]
    go_enter Try.func15, Try.ntmps15
    go_wp2_with fail
    go_ret
    exact ⟨rfl, rfl⟩
  · rw [Nat.min_eq_left (by omega)]
    go_enter Try.func15, Try.ntmps15
    go_wp2_with fail
    go_ret
    exact ⟨rfl, rfl⟩

/-- The number that is put. -/
def snum (x : Int) (s : Bool) : Nat := if s then zig x else (x % 18446744073709551616).toNat
theorem snum_s64 {x : Int} (h : I64 x) (s : Bool) : var.S64 (snum x s) := by
  unfold snum
  cases s
  · simp only [Bool.false_eq_true, if_false]; unfold var.S64; omega
  · simpa using zig_s64 h
theorem unum_wrap (x : Int) : IntKind.u64.wrap x = ((snum x false : Nat) : Int) := by
  rw [IntKind.wrap_u64]
  simp only [snum, Bool.false_eq_true, if_false]
  omega
theorem snum_true (x : Int) : snum x true = zig x := by simp [snum]

set_option maxRecDepth 100000 in
theorem putint_any (w : World) (A : Option Addr) (n c : Nat) (l : List Nat) (x : Int) (s : Bool) (hl : l.length = n) (hn : n ≤ 1000000000) (hr : Row w w.heap.size A (u8s l)) (hx : I64 x) :
    Calls Try.prog 17 #[.slice A n c, .int .i64 x, .bool s] w (Gives w.heap.size 5 1 (n + (var.vput (snum x s)).length) (u8s (l ++ var.vput (snum x s))) w) := by
  have HX := hide hx
  have HS := hide (snum_s64 hx s)
  have HL := hide hl
  clear hx hl
  cases s
  · have hw := unum_wrap x
    go_enter Try.func17, Try.ntmps17
    go_wp2_with fail
    refine (put_any _ A n c l (snum x false) HL.out hn hr (var.vput_len10 HS.out)).mono ?_
    rintro e w1 ⟨v1, rfl, hown1, hb1⟩
    go_wp2_with fail
    go_ret
    exact ⟨_, rfl, hown1, hb1⟩
  · rw [snum_true] at *
    go_enter Try.func17, Try.ntmps17
    go_wp2_with fail
    refine (zig_any _ x HX.out).mono ?_
    rintro e w' ⟨rfl, rfl⟩
    go_wp2_with fail
    refine (put_any _ A n c l (zig x) HL.out hn hr (var.vput_len10 HS.out)).mono ?_
    rintro e w1 ⟨v1, rfl, hown1, hb1⟩
    go_wp2_with fail
    go_ret
    exact ⟨_, rfl, hown1, hb1⟩

set_option maxRecDepth 100000 in
theorem refputint_any (w : World) (A : Option Addr) (n c : Nat) (l : List Nat) (x : Int) (s : Bool) (hl : l.length = n) (hn : n ≤ 1000000000) (hr : Row w w.heap.size A (u8s l)) (hx : I64 x) :
    Calls Try.prog 18 #[.slice A n c, .int .i64 x, .bool s] w (Gives w.heap.size 5 1 (n + (var.vput (snum x s)).length) (u8s (l ++ var.vput (snum x s))) w) := by
  have HX := hide hx
  have HS := hide (snum_s64 hx s)
  have HL := hide hl
  clear hx hl
  cases s
  · have hw := unum_wrap x
    go_enter Try.func18, Try.ntmps18
    go_wp2_with fail
    refine (refput_any _ A n c l (snum x false) HL.out hn hr HS.out).mono ?_
    rintro e w1 ⟨v1, rfl, hown1, hb1⟩
    go_wp2_with fail
    go_ret
    exact ⟨_, rfl, hown1, hb1⟩
  · rw [snum_true] at *
    go_enter Try.func18, Try.ntmps18
    go_wp2_with fail
    refine (refzig_any _ x HX.out).mono ?_
    rintro e w' ⟨rfl, rfl⟩
    go_wp2_with fail
    refine (refput_any _ A n c l (zig x) HL.out hn hr HS.out).mono ?_
    rintro e w1 ⟨v1, rfl, hown1, hb1⟩
    go_wp2_with fail
    go_ret
    exact ⟨_, rfl, hown1, hb1⟩

theorem ptake_lt (f : Nat) : ∀ (i a : Nat) (l : List Nat) (x : Nat) (r : List Nat), i + f = 10 → a < 128 ^ i → (∀ c ∈ l, c < 256) → var.ptake f i a l = some (x, r) → x < 18446744073709551616 := by
  induction f with
  | zero => intro i a l x r _ _ _ h; cases h
  | succ f ih =>
    intro i a l x r hi ha h8 h
    rcases l with _ | ⟨c, l⟩
    · cases h
    · have hc := h8 c (by simp)
      simp only [var.ptake] at h
      split at h
      · rename_i hc2
        refine ih (i + 1) _ l x r (by omega) ?_ (fun c hc => h8 c (by simp [hc])) h
        have : (c - 128) * 128 ^ i ≤ 127 * 128 ^ i := Nat.mul_le_mul_right _ (by omega)
        rw [Nat.pow_succ]
        omega
      · rename_i hc2
        split at h
        · cases h
        · rename_i hno
          simp at h
          obtain ⟨rfl, -⟩ := h
          by_cases h9 : i = 9
          · subst h9
            have : c ≤ 1 := by omega
            have h2 : c * 128 ^ 9 ≤ 1 * 128 ^ 9 := Nat.mul_le_mul_right _ this
            omega
          · have h2 : c * 128 ^ i ≤ 127 * 128 ^ i := Nat.mul_le_mul_right _ (by omega)
            have h3 : 128 ^ i ≤ 128 ^ 8 := Nat.pow_le_pow_right (by omega) (by omega)
            omega
theorem vtake_s64 {l r : List Nat} {x : Nat} (h8 : ∀ c ∈ l, c < 256) (h : var.vtake l = some (x, r)) : var.S64 x := ptake_lt 10 0 0 l x r rfl (by omega) h8 h
theorem vtake8 {l r : List Nat} {x : Nat} (h8 : ∀ c ∈ l, c < 256) (h : var.vtake l = some (x, r)) : ∀ c ∈ r, c < 256 := by
  obtain ⟨p, rfl, -⟩ := var.vtake_suffix h
  exact fun c hc => h8 c (by simp [hc])
theorem tkR8 {l : List Nat} (h8 : ∀ c ∈ l, c < 256) : ∀ c ∈ tkR l, c < 256 := by
  cases h : var.vtake l with
  | none => rw [(tk_none h).2.1]; simp
  | some p => obtain ⟨x, r⟩ := p; rw [(tk_some h).2.1]; exact vtake8 h8 h

/-- What is taken as a number with a sign or without. -/
def itake (s : Bool) (l : List Nat) : Option (Int × List Nat) := (var.vtake l).bind fun p => if s then some (zag p.1, p.2) else if p.1 < 9223372036854775808 then some ((p.1 : Int), p.2) else none
def itX (s : Bool) (l : List Nat) : Int := ((itake s l).map (·.1)).getD 0
def itR (s : Bool) (l : List Nat) : List Nat := ((itake s l).map (·.2)).getD []
def itE (s : Bool) (l : List Nat) : Int := if (itake s l).isNone then 2 else 0
theorem it_none {s : Bool} {l : List Nat} (h : itake s l = none) : itX s l = 0 ∧ itR s l = [] ∧ itE s l = 2 := by simp [itX, itR, itE, h]
theorem it_some {s : Bool} {l r : List Nat} {x : Int} (h : itake s l = some (x, r)) : itX s l = x ∧ itR s l = r ∧ itE s l = 0 := by simp [itX, itR, itE, h]
theorem itR8 (s : Bool) {l : List Nat} (h8 : ∀ c ∈ l, c < 256) : ∀ c ∈ itR s l, c < 256 := by
  unfold itR itake
  cases h : var.vtake l with
  | none => simp
  | some p =>
    obtain ⟨x, r⟩ := p
    have := vtake8 h8 h
    simp only [Option.bind_some]
    split
    · simpa using this
    · split
      · simpa using this
      · simp
theorem itakes_none {w w' : World} {s : Bool} {l : List Nat} {E : Ending} (h : itake s l = none) (hE : E = .returned (.tuple #[.int .i64 0, .slice none 0 0, .int .i64 2])) (hb : Below w.heap.size w w') :
    Takes w.heap.size (.int .i64 (itX s l)) (itR s l) (itE s l) w E w' := by
  obtain ⟨h1, h2, h3⟩ := it_none h
  rw [h1, h2, h3]
  exact ⟨_, hE, World.ownsRow_nil _ _ _ _, hb⟩
theorem itakes_some {w w' : World} {s : Bool} {l r : List Nat} {x : Int} {E : Ending} {v : Value} (h : itake s l = some (x, r)) (hE : E = .returned (.tuple #[.int .i64 x, v, .int .i64 0])) (ho : w'.ownsRow w.heap.size 5 1 v r.length (u8s r)) (hb : Below w.heap.size w w') :
    Takes w.heap.size (.int .i64 (itX s l)) (itR s l) (itE s l) w E w' := by
  obtain ⟨h1, h2, h3⟩ := it_some h
  rw [h1, h2, h3]
  exact ⟨_, hE, ho, hb⟩

set_option maxRecDepth 100000 in
set_option maxHeartbeats 1000000 in
theorem takeint_any (w : World) (A : Option Addr) (n c : Nat) (l : List Nat) (s : Bool) (hl : l.length = n) (hn : n ≤ 1000000000) (hnc : n ≤ c) (hc : c ≤ maxLen) (h8 : ∀ x ∈ l, x < 256) (hr : Row w w.heap.size A (u8s l)) :
    Calls Try.prog 20 #[.slice A n c, .bool s] w (Takes w.heap.size (.int .i64 (itX s l)) (itR s l) (itE s l) w) := by
  have H8 := hide h8
  have HL := hide hl
  clear h8 hl
  go_enter Try.func20, Try.ntmps20
  go_wp2_with fail
  refine (take_any _ A n c l HL.out hn hnc hc H8.out hr).mono ?_
  rintro e w1 ⟨v1, rfl, hown1, hb1⟩
  cases hv : var.vtake l with
  | none =>
    obtain ⟨t1, t2, t3⟩ := tk_none hv
    rw [t1, t3]
    have HI := hide (show itake s l = none by simp [itake, hv])
    clear hv t1 t2 t3 hown1
    go_wp2_with fail
    go_ret3
    exact itakes_none HI.out rfl hb1
  | some p =>
    obtain ⟨x, r⟩ := p
    obtain ⟨t1, t2, t3⟩ := tk_some hv
    rw [t1, t3]
    rw [t2] at hown1
    have HV := hide (vtake_s64 H8.out hv)
    obtain ⟨A1, c1, rfl, hc1, -⟩ := own_form hown1
    have HO := hide hown1
    clear t1 t2 t3 hown1
    cases s
    · by_cases hb : x < 9223372036854775808
      · have HI := hide (show itake false l = some ((x : Int), r) by simp [itake, hv, hb])
        have hsh := (show (x : Int) / 9223372036854775808 = 0 by omega)
        have hwr : IntKind.i64.wrap ((x : Nat) : Int) = (x : Int) := IntWalk.i64_in _ (by omega)
        have HB := hide hb
        clear hv hb
        go_wp2_with fail
        go_ret3
        exact itakes_some HI.out rfl HO.out hb1
      · have HI := hide (show itake false l = none by simp [itake, hv, hb])
        have hsh := (show (x : Int) / 9223372036854775808 = 1 by have := HV.out; unfold var.S64 at this; omega)
        clear hv
        go_wp2_with fail
        go_ret3
        exact itakes_none HI.out rfl hb1
    · have HI := hide (show itake true l = some (zag x, r) by simp [itake, hv])
      clear hv
      go_wp2_with fail
      refine (zag_any _ x HV.out).mono ?_
      rintro e w' ⟨rfl, rfl⟩
      go_wp2_with fail
      go_ret3
      exact itakes_some HI.out rfl HO.out hb1

set_option maxRecDepth 100000 in
set_option maxHeartbeats 1000000 in
theorem reftakeint_any (w : World) (A : Option Addr) (n c : Nat) (l : List Nat) (s : Bool) (hl : l.length = n) (hn : n ≤ 1000000000) (hnc : n ≤ c) (hc : c ≤ maxLen) (h8 : ∀ x ∈ l, x < 256) (hr : Row w w.heap.size A (u8s l)) :
    Calls Try.prog 21 #[.slice A n c, .bool s] w (Takes w.heap.size (.int .i64 (itX s l)) (itR s l) (itE s l) w) := by
  have H8 := hide h8
  have HL := hide hl
  clear h8 hl
  go_enter Try.func21, Try.ntmps21
  go_wp2_with fail
  refine (reftake_any _ A n c l HL.out hn hnc hc H8.out hr).mono ?_
  rintro e w1 ⟨v1, rfl, hown1, hb1⟩
  cases hv : var.vtake l with
  | none =>
    obtain ⟨t1, t2, t3⟩ := tk_none hv
    rw [t1, t3]
    have HI := hide (show itake s l = none by simp [itake, hv])
    clear hv t1 t2 t3 hown1
    go_wp2_with fail
    go_ret3
    exact itakes_none HI.out rfl hb1
  | some p =>
    obtain ⟨x, r⟩ := p
    obtain ⟨t1, t2, t3⟩ := tk_some hv
    rw [t1, t3]
    rw [t2] at hown1
    have HV := hide (vtake_s64 H8.out hv)
    obtain ⟨A1, c1, rfl, hc1, -⟩ := own_form hown1
    have HO := hide hown1
    clear t1 t2 t3 hown1
    cases s
    · by_cases hb : x < 9223372036854775808
      · have HI := hide (show itake false l = some ((x : Int), r) by simp [itake, hv, hb])
        have hsh := (show decide ((x : Int) ≥ 9223372036854775808) = false by simp; omega)
        have hwr : IntKind.i64.wrap ((x : Nat) : Int) = (x : Int) := IntWalk.i64_in _ (by omega)
        have HB := hide hb
        clear hv hb
        go_wp2_with fail
        go_ret3
        exact itakes_some HI.out rfl HO.out hb1
      · have HI := hide (show itake false l = none by simp [itake, hv, hb])
        have hsh := (show (9223372036854775808 : Int) ≤ (x : Int) by omega)
        clear hv
        go_wp2_with fail
        go_ret3
        exact itakes_none HI.out rfl hb1
    · have HI := hide (show itake true l = some (zag x, r) by simp [itake, hv])
      clear hv
      go_wp2_with fail
      refine (refzag_any _ x HV.out).mono ?_
      rintro e w' ⟨rfl, rfl⟩
      go_wp2_with fail
      go_ret3
      exact itakes_some HI.out rfl HO.out hb1
#print axioms reftakeint_any
end Go.Proofs.Ytkhdkfpgalcehaa
