/-
  Plain arithmetic of the checksum: the register's step is linear and loses nothing, so that a turned byte, or two side by side, always show. No program in sight.
-/
namespace Go.Proofs.Ytocpeiocgppkfaa.crc
/-- One bit's step. -/
def stp (r : Nat) : Nat := (r / 2) ^^^ ((r % 2) * 2197175160)
def stp8 (r : Nat) : Nat := stp (stp (stp (stp (stp (stp (stp (stp r)))))))
/-- One byte's step on the register. -/
def byt (r c : Nat) : Nat := (r / 256) ^^^ stp8 ((r ^^^ c) % 256)
def reg (l : List Nat) (r : Nat) : Nat := l.foldl byt r
def sum (l : List Nat) : Nat := reg l 4294967295 ^^^ 4294967295
/-- The register behind some bytes, from the beginning on. -/
def run0 (l : List Nat) : Nat := reg l 4294967295
def tail4 (s : Nat) : List Nat := [s % 256, s / 256 % 256, s / 65536 % 256, s / 16777216 % 256]
def seal_ (l : List Nat) : List Nat := l ++ tail4 (sum l)

theorem stp_lt {r : Nat} (h : r < 4294967296) : stp r < 4294967296 := by
  unfold stp
  have : r % 2 * 2197175160 < 2 ^ 32 := by omega
  exact Nat.xor_lt_two_pow (n := 32) (by omega) this
theorem stp8_lt {r : Nat} (h : r < 4294967296) : stp8 r < 4294967296 := by
  unfold stp8; repeat (first | exact h | apply stp_lt)
theorem byt_lt {r c : Nat} (h : r < 4294967296) : byt r c < 4294967296 := by
  unfold byt
  have h1 : r / 256 < 2 ^ 32 := by omega
  have h2 : stp8 ((r ^^^ c) % 256) < 2 ^ 32 := stp8_lt (by omega)
  exact Nat.xor_lt_two_pow h1 h2
theorem reg_lt (l : List Nat) : ∀ {r : Nat}, r < 4294967296 → reg l r < 4294967296 := by
  induction l with
  | nil => intro r h; exact h
  | cons c l ih => intro r h; exact ih (byt_lt h)
def Small (r : Nat) : Prop := r < 4294967296
theorem run0_lt (l : List Nat) : run0 l < 4294967296 := reg_lt l (by omega)
theorem run0_snoc (l : List Nat) (c : Nat) : run0 (l ++ [c]) = byt (run0 l) c := by simp [run0, reg]
theorem sum_lt (l : List Nat) : sum l < 4294967296 := by
  unfold sum
  have h1 : reg l 4294967295 < 2 ^ 32 := reg_lt l (by omega)
  exact Nat.xor_lt_two_pow (n := 32) h1 (by omega)
theorem reg_append (l m : List Nat) (r : Nat) : reg (l ++ m) r = reg m (reg l r) := by simp [reg]

/-! ### linear -/
theorem xor_div2 (a b : Nat) : (a ^^^ b) / 2 = a / 2 ^^^ b / 2 := Nat.xor_div_two
theorem xor_mod2 (a b : Nat) : (a ^^^ b) % 2 = a % 2 ^^^ b % 2 := Nat.xor_mod_two_pow (n := 1)
theorem xor_div256 (a b : Nat) : (a ^^^ b) / 256 = a / 256 ^^^ b / 256 := Nat.xor_div_two_pow (n := 8)
theorem xor_mod256 (a b : Nat) : (a ^^^ b) % 256 = a % 256 ^^^ b % 256 := Nat.xor_mod_two_pow (n := 8)
theorem xor4 (a b c d : Nat) : (a ^^^ b) ^^^ (c ^^^ d) = (a ^^^ c) ^^^ (b ^^^ d) := by
  rw [Nat.xor_assoc, Nat.xor_assoc, ← Nat.xor_assoc b c d, Nat.xor_comm b c, Nat.xor_assoc c b d]
theorem stp_xor (a b : Nat) : stp (a ^^^ b) = stp a ^^^ stp b := by
  unfold stp
  rw [xor_div2, xor_mod2, xor4]
  congr 1
  have ha : a % 2 = 0 ∨ a % 2 = 1 := by omega
  have hb : b % 2 = 0 ∨ b % 2 = 1 := by omega
  rcases ha with ha | ha <;> rcases hb with hb | hb <;> rw [ha, hb] <;> decide
theorem stp8_xor (a b : Nat) : stp8 (a ^^^ b) = stp8 a ^^^ stp8 b := by unfold stp8; simp only [stp_xor]
theorem byt_xor (r s c d : Nat) : byt (r ^^^ s) (c ^^^ d) = byt r c ^^^ byt s d := by
  unfold byt
  rw [xor4 r s c d, xor_div256, xor_mod256 (r ^^^ c) (s ^^^ d), stp8_xor, xor4]
theorem stp_zero : stp 0 = 0 := by decide
theorem stp8_zero : stp8 0 = 0 := by decide
theorem byt_zero : byt 0 0 = 0 := by decide
theorem xor_eq_zero {a b : Nat} : a ^^^ b = 0 ↔ a = b := by
  constructor
  · intro h
    have := congrArg (· ^^^ b) h
    simpa [Nat.xor_assoc] using this
  · rintro rfl; exact Nat.xor_self _
/-- A step that ends in 0 began in 0 (32 bits). -/
theorem stp_eq_zero {r : Nat} (h : r < 4294967296) (h0 : stp r = 0) : r = 0 := by
  unfold stp at h0
  have h1 := xor_eq_zero.1 h0
  have : r % 2 = 0 ∨ r % 2 = 1 := by omega
  omega
theorem stp8_eq_zero {r : Nat} (h : r < 4294967296) (h0 : stp8 r = 0) : r = 0 := by
  have a := @stp_lt
  unfold stp8 at h0
  have e1 := stp_eq_zero (a (a (a (a (a (a (a h))))))) h0
  have e2 := stp_eq_zero (a (a (a (a (a (a h)))))) e1
  have e3 := stp_eq_zero (a (a (a (a (a h))))) e2
  have e4 := stp_eq_zero (a (a (a (a h)))) e3
  have e5 := stp_eq_zero (a (a (a h))) e4
  have e6 := stp_eq_zero (a (a h)) e5
  have e7 := stp_eq_zero (a h) e6
  exact stp_eq_zero h e7
/-- Eight steps are one byte's step: shifting first changes nothing. -/
theorem stp8_high (x : Nat) : stp8 (x * 256) = x := by
  have h : ∀ y, stp (2 * y) = y := fun y => by unfold stp; simp
  unfold stp8
  rw [show x * 256 = 2 * (2 * (2 * (2 * (2 * (2 * (2 * (2 * x))))))) by omega]
  simp only [h]
theorem xor_split (r : Nat) : r = (r / 256) * 256 ^^^ (r % 256) := by
  have h : r % 256 < 2 ^ 8 := by omega
  have := Nat.two_pow_add_eq_or_of_lt h (r / 256)
  have h2 : (r / 256 * 256) ^^^ (r % 256) = (r / 256 * 256) ||| (r % 256) := by
    apply Nat.eq_of_testBit_eq
    intro i
    rw [Nat.testBit_xor, Nat.testBit_or]
    by_cases hi : i < 8
    · have : (r / 256 * 256).testBit i = false := by
        rw [show r / 256 * 256 = 2 ^ 8 * (r / 256) by omega, Nat.testBit_two_pow_mul]; simp; omega
      simp [this]
    · have : (r % 256).testBit i = false := Nat.testBit_lt_two_pow (Nat.lt_of_lt_of_le h (Nat.pow_le_pow_right (by omega) (by omega)))
      simp [this]
  rw [h2, show r / 256 * 256 = 2 ^ 8 * (r / 256) by omega, ← this]; omega
theorem byt_eq {r c : Nat} (hc : c < 256) : byt r c = stp8 (r ^^^ c) := by
  unfold byt
  conv => rhs; rw [xor_split (r ^^^ c)]
  rw [stp8_xor, stp8_high]
  congr 1
  rw [xor_div256, Nat.div_eq_of_lt hc, Nat.xor_zero]
theorem xor_self_left (a b : Nat) : a ^^^ (a ^^^ b) = b := by rw [← Nat.xor_assoc, Nat.xor_self, Nat.zero_xor]
theorem byt_diff (r s c d : Nat) (h : byt r c = byt s d) : byt (r ^^^ s) (c ^^^ d) = 0 := by rw [byt_xor, h, Nat.xor_self]
theorem byt_inj {r s c : Nat} (hr : r < 4294967296) (hs : s < 4294967296) (h : byt r c = byt s c) : r = s := by
  have h1 := byt_diff _ _ _ _ h
  rw [Nat.xor_self, byt_eq (by omega), Nat.xor_zero] at h1
  exact xor_eq_zero.1 (stp8_eq_zero (Nat.xor_lt_two_pow (n := 32) hr hs) h1)
theorem reg_inj (l : List Nat) : ∀ {r s : Nat}, r < 4294967296 → s < 4294967296 → reg l r = reg l s → r = s := by
  induction l with
  | nil => intro r s _ _ h; exact h
  | cons c l ih => intro r s hr hs h; exact byt_inj hr hs (ih (byt_lt hr) (byt_lt hs) h)
theorem sum_inj {l m : List Nat} (h : sum l = sum m) : reg l 4294967295 = reg m 4294967295 := by
  unfold sum at h
  have := congrArg (· ^^^ 4294967295) h
  simpa [Nat.xor_assoc] using this
/-- Nothing of one byte comes to less than 256. -/
theorem stp8_great : ∀ x : Fin 256, x.val ≠ 0 → 256 ≤ stp8 x.val := by decide +kernel
theorem sum_turned1 (p q : List Nat) (c x : Nat) (hx : x < 256) (h0 : x ≠ 0) : sum (p ++ (c ^^^ x) :: q) ≠ sum (p ++ c :: q) := by
  intro h
  have h1 := sum_inj h
  rw [reg_append, reg_append] at h1
  have hp := reg_lt p (r := 4294967295) (by omega)
  have h2 := byt_diff _ _ _ _ (reg_inj q (byt_lt hp) (byt_lt hp) h1)
  rw [Nat.xor_self, Nat.xor_comm (c ^^^ x), xor_self_left, byt_eq hx, Nat.zero_xor] at h2
  exact h0 (stp8_eq_zero (by omega) h2)
theorem sum_turned2 (p q : List Nat) (c d x y : Nat) (hx : x < 256) (h0 : x ≠ 0) (hy : y < 256) : sum (p ++ (c ^^^ x) :: (d ^^^ y) :: q) ≠ sum (p ++ c :: d :: q) := by
  intro h
  have h1 := sum_inj h
  rw [reg_append, reg_append] at h1
  have hp := reg_lt p (r := 4294967295) (by omega)
  have h2 := byt_diff _ _ _ _ (reg_inj q (byt_lt (byt_lt hp)) (byt_lt (byt_lt hp)) h1)
  rw [← byt_xor, Nat.xor_self, Nat.xor_comm (c ^^^ x), xor_self_left, Nat.xor_comm (d ^^^ y), xor_self_left, byt_eq hx, Nat.zero_xor, byt_eq hy] at h2
  have h3 := stp8_lt (r := x) (by omega)
  have h4 := xor_eq_zero.1 (stp8_eq_zero (Nat.xor_lt_two_pow (n := 32) h3 (by omega)) h2)
  have := stp8_great ⟨x, hx⟩ h0
  simp at this
  omega
theorem tail4_inj {s t : Nat} (hs : s < 4294967296) (ht : t < 4294967296) (h : tail4 s = tail4 t) : s = t := by
  simp only [tail4, List.cons.injEq, and_true] at h
  omega
theorem seal_length (l : List Nat) : (seal_ l).length = l.length + 4 := by simp [seal_, tail4]
/-- A seal with a byte turned is none. -/
theorem turned (b : List Nat) (at_ : Nat) (x y : Nat) (hat : at_ < b.length + 4) (hx : x < 256) (h0 : x ≠ 0) (hy : y < 256) (s' : List Nat)
    (hs : s' = (if at_ + 1 < b.length then ((seal_ b).set at_ ((seal_ b).getD at_ 0 ^^^ x)).set (at_ + 1) ((seal_ b).getD (at_ + 1) 0 ^^^ y) else (seal_ b).set at_ ((seal_ b).getD at_ 0 ^^^ x))) :
    seal_ (s'.take b.length) ≠ s' := by
  intro h
  by_cases hb : at_ < b.length
  · obtain ⟨p, c, q, rfl, hp⟩ : ∃ p c q, b = p ++ c :: q ∧ p.length = at_ :=
      ⟨b.take at_, b[at_], b.drop (at_ + 1), by simp, by simp; omega⟩
    subst hp
    by_cases hq : p.length + 1 < (p ++ c :: q).length
    · rw [if_pos hq] at hs
      obtain ⟨d, q, rfl⟩ : ∃ d q', q = d :: q' := by
        cases q with
        | nil => simp at hq
        | cons d q => exact ⟨d, q, rfl⟩
      have e : s' = (p ++ (c ^^^ x) :: (d ^^^ y) :: q) ++ tail4 (sum (p ++ c :: d :: q)) := by
        rw [hs]; unfold seal_; simp [List.getD_eq_getElem?_getD]
      have et : s'.take (p ++ c :: d :: q).length = p ++ (c ^^^ x) :: (d ^^^ y) :: q := by
        rw [e, List.take_append_of_le_length (by simp)]
        exact List.take_of_length_le (by simp)
      rw [et, e] at h
      exact sum_turned2 p q c d x y hx h0 hy (tail4_inj (sum_lt _) (sum_lt _) (List.append_cancel_left h))
    · rw [if_neg hq] at hs
      have e : s' = (p ++ (c ^^^ x) :: q) ++ tail4 (sum (p ++ c :: q)) := by
        rw [hs]; unfold seal_; simp [List.getD_eq_getElem?_getD]
      have et : s'.take (p ++ c :: q).length = p ++ (c ^^^ x) :: q := by
        rw [e, List.take_append_of_le_length (by simp)]
        exact List.take_of_length_le (by simp)
      rw [et, e] at h
      exact sum_turned1 p q c x hx h0 (tail4_inj (sum_lt _) (sum_lt _) (List.append_cancel_left h))
  · rw [if_neg (by omega)] at hs
    have hl := seal_length b
    have e : s'.take b.length = b := by
      rw [hs, List.take_set_of_le (by omega)]; simp [seal_]
    rw [e] at h
    have h1 : (seal_ b)[at_]? = s'[at_]? := by rw [h]
    rw [hs, List.getElem?_set] at h1
    rw [if_pos rfl, if_pos (by omega), List.getElem?_eq_getElem (by omega)] at h1
    have h2 : (seal_ b)[at_] = (seal_ b).getD at_ 0 ^^^ x := by simpa using h1
    rw [List.getD_eq_getElem?_getD, List.getElem?_eq_getElem (by omega)] at h2
    have h3 : (seal_ b)[at_] ^^^ (seal_ b)[at_] = (seal_ b)[at_] ^^^ ((seal_ b)[at_] ^^^ x) := congrArg _ h2
    rw [Nat.xor_self, xor_self_left] at h3
    exact h0 h3.symm
end Go.Proofs.Ytocpeiocgppkfaa.crc
