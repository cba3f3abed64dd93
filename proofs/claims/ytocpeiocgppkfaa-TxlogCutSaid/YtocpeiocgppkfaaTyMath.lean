/-
  Records of write-ids, in plain words: how one is laid down, how bytes are taken as records, and what a log that is cut has.
-/
import Derived.Test.YtocpeiocgppkfaaYCrcF
import Derived.Test.YtocpeiocgppkfaaWireTake
import Derived.Test.YtocpeiocgppkfaaVarTk
namespace Go.Proofs.Ytocpeiocgppkfaa.ty

/-- A record as fields; laid down. -/
def recF (op id : Nat) : List Fld := [⟨1, false, op, []⟩, ⟨2, false, id, []⟩]
def body (op id : Nat) : List Nat := wi.enc (recF op id)
def sealed (op id : Nat) : List Nat := crc.seal_ (body op id)
def lay (op id : Nat) : List Nat := (sealed op id).length :: sealed op id
def May (op id : Int) : Prop := 1 ≤ op ∧ op ≤ 3 ∧ 1 ≤ id ∧ id ≤ 1073741824
instance (op id : Int) : Decidable (May op id) := by unfold May; infer_instance
def put (op id : Int) : List Nat × Int := if May op id then (lay op.toNat id.toNat, 0) else ([], 1)
theorem recF_fits {op id : Nat} (h1 : var.S64 op) (h2 : var.S64 id) : ∀ f ∈ recF op id, wi.Fits f ∧ (1 ≤ f.tag ∧ f.tag ≤ 100) ∧ wi.Norm f := by
  intro f hf
  simp [recF] at hf
  rcases hf with rfl | rfl
  · exact ⟨⟨h1, by simp, by simp⟩, by simp, by simp [wi.Norm]⟩
  · exact ⟨⟨h2, by simp, by simp⟩, by simp, by simp [wi.Norm]⟩
theorem recF_put {op id : Nat} (h1 : var.S64 op) (h2 : var.S64 id) : wi.put (recF op id) = (body op id, 0) :=
  wi.put_ok fun _ f hk => (recF_fits h1 h2 f (List.mem_of_getElem? hk)).2.1
theorem body8 {op id : Nat} (h1 : var.S64 op) (h2 : var.S64 id) : ∀ x ∈ body op id, x < 256 := wi.enc8 fun f hf => (recF_fits h1 h2 f hf).1
theorem vput_small (x : Nat) (h : x < 128) : (var.vput x).length ≤ 1 := by
  rw [var.vput_small (by omega)]; simp
theorem body_len {op id : Nat} (h1 : var.S64 op) (h2 : var.S64 id) : (body op id).length ≤ 40 := by
  have a1 := var.vput_len10 (show var.S64 (8 * 1) by unfold var.S64; omega)
  have a2 := var.vput_len10 (show var.S64 (8 * 2) by unfold var.S64; omega)
  have a3 := var.vput_len10 h1
  have a4 := var.vput_len10 h2
  have e : body op id = (var.vput (8 * 1) ++ var.vput op) ++ ((var.vput (8 * 2) ++ var.vput id) ++ []) := rfl
  rw [e]
  simp only [List.length_append, List.length_nil]
  omega
theorem body_take {op id : Nat} (h1 : var.S64 op) (h2 : var.S64 id) : wi.take (body op id) = some (recF op id) := wi.take_enc _ (recF_fits h1 h2)
theorem sealed_len (op id : Nat) : (sealed op id).length = (body op id).length + 4 := crc.seal_length _
theorem seal8' {l : List Nat} (h8 : ∀ x ∈ l, x < 256) : ∀ x ∈ crc.seal_ l, x < 256 := seal8 h8
theorem lay8 {op id : Nat} (h1 : var.S64 op) (h2 : var.S64 id) : ∀ x ∈ lay op id, x < 256 := by
  intro x hx
  rcases List.mem_cons.1 hx with rfl | hx
  · have := body_len h1 h2
    rw [sealed_len]; omega
  · exact seal8 (body8 h1 h2) x hx
theorem may_s64 {op id : Int} (h : May op id) : var.S64 op.toNat ∧ var.S64 id.toNat := by
  unfold May at h
  unfold var.S64
  omega
theorem put_may {op id : Int} (h : May op id) : put op id = (lay op.toNat id.toNat, 0) := if_pos h
theorem put_not {op id : Int} (h : ¬ May op id) : put op id = ([], 1) := if_neg h

/-- The record that bytes begin with, by its length. -/
def two (b : List Nat) (n : Nat) (fs : List Fld) : Option ((Int × Int) × Nat) :=
  match fs with
  | [f, g] => if May f.n g.n ∧ lay f.n g.n = b.take n then some ((f.n, g.n), n) else none
  | _ => none
def one (b : List Nat) : Option ((Int × Int) × Nat) :=
  match b with
  | [] => none
  | x :: r => if r.length < x then none else (opens (r.take x)).bind fun y => (wi.take y).bind fun fs => two (x :: r) (1 + x) fs
theorem one_cons (x : Nat) (r : List Nat) : one (x :: r) = if r.length < x then none else (opens (r.take x)).bind fun y => (wi.take y).bind fun fs => two (x :: r) (1 + x) fs := rfl
theorem one_short {x : Nat} {r : List Nat} (h : r.length < x) : one (x :: r) = none := if_pos h
theorem one_unsealed {x : Nat} {r : List Nat} (h : opens (r.take x) = none) : one (x :: r) = none := by
  rw [one_cons, h]
  split <;> rfl
theorem one_unwired {x : Nat} {r y : List Nat} (h : opens (r.take x) = some y) (h2 : wi.take y = none) : one (x :: r) = none := by
  rw [one_cons, h, Option.bind_some, h2]
  split <;> rfl
theorem one_wired {x : Nat} {r y : List Nat} {fs : List Fld} (hx : x ≤ r.length) (h : opens (r.take x) = some y) (h2 : wi.take y = some fs) : one (x :: r) = two (x :: r) (1 + x) fs := by
  rw [one_cons, if_neg (by omega), h, Option.bind_some, h2]
  rfl
theorem two_len {b : List Nat} {n : Nat} {fs : List Fld} (h : fs.length ≠ 2) : two b n fs = none := by
  unfold two
  split
  · exact absurd rfl h
  · rfl
theorem two_pair (b : List Nat) (n : Nat) (f g : Fld) : two b n [f, g] = if May f.n g.n ∧ lay f.n g.n = b.take n then some (((f.n : Int), (g.n : Int)), n) else none := rfl
theorem two_spec {b : List Nat} {n : Nat} {fs : List Fld} {r : Int × Int} {k : Nat} (h : two b n fs = some (r, k)) : k = n ∧ May r.1 r.2 ∧ lay r.1.toNat r.2.toNat = b.take n := by
  unfold two at h
  split at h
  · split at h
    · rename_i hc
      simp only [Option.some.injEq, Prod.mk.injEq] at h
      obtain ⟨h1, h2⟩ := h
      subst h1
      exact ⟨h2.symm, hc.1, hc.2⟩
    · cases h
  · cases h
theorem one_spec {b : List Nat} {r : Int × Int} {k : Nat} (h : one b = some (r, k)) : 1 ≤ k ∧ k ≤ b.length ∧ May r.1 r.2 ∧ lay r.1.toNat r.2.toNat = b.take k := by
  rcases b with _ | ⟨x, b⟩
  · cases h
  · by_cases hx : b.length < x
    · rw [one_short hx] at h; cases h
    · cases h1 : opens (b.take x) with
      | none => rw [one_unsealed h1] at h; cases h
      | some y =>
        cases h2 : wi.take y with
        | none => rw [one_unwired h1 h2] at h; cases h
        | some fs =>
          rw [one_wired (by omega) h1 h2] at h
          obtain ⟨rfl, h3, h4⟩ := two_spec h
          exact ⟨by omega, by simp; omega, h3, h4⟩
theorem one_lay {op id : Nat} (h : May op id) (rest : List Nat) : one (lay op id ++ rest) = some (((op : Int), (id : Int)), (lay op id).length) := by
  have hs := may_s64 h
  simp only [Int.toNat_natCast] at hs
  have e : lay op id ++ rest = (sealed op id).length :: (sealed op id ++ rest) := rfl
  have ho : opens ((sealed op id ++ rest).take (sealed op id).length) = some (body op id) := by
    rw [List.take_left]; exact opens_seal _
  rw [e, one_wired (by simp) ho (body_take hs.1 hs.2)]
  unfold recF
  rw [two_pair]
  have hl : (lay op id).length = 1 + (sealed op id).length := by simp [lay]; omega
  rw [if_pos ⟨h, by rw [← e, ← hl, List.take_left]⟩, hl]
theorem one_zero (rest : List Nat) : one (0 :: rest) = none := one_unsealed (by rw [List.take_zero]; exact opens_nil)
theorem one_nil : one [] = none := rfl
theorem one_cut {op id : Nat} (rest : List Nat) {k : Nat} (hk : k < (lay op id).length) : one ((lay op id ++ rest).take k) = none := by
  rcases k with _ | k
  · rfl
  · have e : (lay op id ++ rest).take (k + 1) = (sealed op id).length :: (sealed op id ++ rest).take k := rfl
    rw [e]
    apply one_short
    have : (lay op id).length = (sealed op id).length + 1 := rfl
    rw [List.length_take]
    omega

/-- Bytes taken as records, as far as they go: by some fuel. -/
def takeN : Nat → List Nat → List (Int × Int) × Nat
  | 0, _ => ([], 0)
  | n + 1, b => match one b with
    | none => ([], 0)
    | some (r, k) => (r :: (takeN n (b.drop k)).1, k + (takeN n (b.drop k)).2)
theorem takeN_fuel : ∀ (n m : Nat) (b : List Nat), b.length ≤ n → b.length ≤ m → takeN n b = takeN m b
  | 0, 0, b, _, _ => rfl
  | 0, m + 1, b, h, _ => by
    obtain rfl : b = [] := List.length_eq_zero_iff.1 (by omega)
    simp [takeN, one_nil]
  | n + 1, 0, b, _, h => by
    obtain rfl : b = [] := List.length_eq_zero_iff.1 (by omega)
    simp [takeN, one_nil]
  | n + 1, m + 1, b, h, k => by
    unfold takeN
    cases h1 : one b with
    | none => rfl
    | some p =>
      obtain ⟨r, j⟩ := p
      have hs := one_spec h1
      simp only
      rw [takeN_fuel n m (b.drop j) (by rw [List.length_drop]; omega) (by rw [List.length_drop]; omega)]
def take (b : List Nat) : List (Int × Int) × Nat := takeN b.length b
theorem take_none {b : List Nat} (h : one b = none) : take b = ([], 0) := by
  unfold take
  cases b with
  | nil => rfl
  | cons x b => simp [takeN, h]
theorem take_some {b : List Nat} {r : Int × Int} {k : Nat} (h : one b = some (r, k)) : take b = (r :: (take (b.drop k)).1, k + (take (b.drop k)).2) := by
  have hs := one_spec h
  unfold take
  obtain ⟨n, hn⟩ : ∃ n, b.length = n + 1 := ⟨b.length - 1, by omega⟩
  rw [hn]
  have e : takeN (n + 1) b = (r :: (takeN n (b.drop k)).1, k + (takeN n (b.drop k)).2) := by
    show (match one b with | none => ([], 0) | some (r, k) => (r :: (takeN n (b.drop k)).1, k + (takeN n (b.drop k)).2)) = _
    rw [h]
  rw [e, takeN_fuel n (b.drop k).length (b.drop k) (by rw [List.length_drop]; omega) (Nat.le_refl _)]
theorem take_le_aux : ∀ (n : Nat) (b : List Nat), b.length ≤ n → (take b).2 ≤ b.length ∧ (take b).1.length ≤ b.length
  | n, b, hn => by
    cases h : one b with
    | none => rw [take_none h]; simp
    | some p =>
      obtain ⟨r, k⟩ := p
      have hs := one_spec h
      rw [take_some h]
      match n, hn with
      | 0, hn => omega
      | n + 1, hn =>
        have := take_le_aux n (b.drop k) (by rw [List.length_drop]; omega)
        rw [List.length_drop] at this
        simp only [List.length_cons]
        omega
theorem take_le (b : List Nat) : (take b).2 ≤ b.length ∧ (take b).1.length ≤ b.length := take_le_aux b.length b (Nat.le_refl _)

/-- Records one behind the other. -/
def layI (r : Int × Int) : List Nat := lay r.1.toNat r.2.toNat
def lays (l : List (Int × Int)) : List Nat := l.flatMap layI
theorem lays_cons (r : Int × Int) (l : List (Int × Int)) : lays (r :: l) = layI r ++ lays l := rfl
theorem lays_snoc (l : List (Int × Int)) (r : Int × Int) : lays (l ++ [r]) = lays l ++ layI r := by simp [lays]
theorem one_layI {r : Int × Int} (h : May r.1 r.2) (rest : List Nat) : one (layI r ++ rest) = some (r, (layI r).length) := by
  obtain ⟨op, id⟩ := r
  obtain ⟨a, rfl⟩ : ∃ a : Nat, op = (a : Int) := ⟨op.toNat, by simp only [May] at h; omega⟩
  obtain ⟨b, rfl⟩ : ∃ b : Nat, id = (b : Int) := ⟨id.toNat, by simp only [May] at h; omega⟩
  exact one_lay h rest
theorem take_lays {rest : List Nat} (hr : one rest = none) : ∀ (l : List (Int × Int)), (∀ r ∈ l, May r.1 r.2) → take (lays l ++ rest) = (l, (lays l).length)
  | [], _ => by rw [show lays [] ++ rest = rest from rfl, take_none hr]; rfl
  | r :: l, h => by
    rw [lays_cons, List.append_assoc, take_some (one_layI (h r (by simp)) _), List.drop_left, take_lays hr l (fun x hx => h x (by simp [hx]))]
    simp
theorem take_cut : ∀ (l : List (Int × Int)), (∀ r ∈ l, May r.1 r.2) → ∀ k, k ≤ (lays l).length → ∃ j, j ≤ l.length ∧ (take ((lays l).take k)).1 = l.take j ∧ (take ((lays l).take k)).2 ≤ k ∧ (k < (lays l).length → j < l.length)
  | [], _, k, hk => by
    refine ⟨0, Nat.le_refl _, ?_, ?_, ?_⟩
    · rw [show (lays []).take k = [] from by simp [lays], take_none one_nil]; rfl
    · rw [show (lays []).take k = [] from by simp [lays], take_none one_nil]; exact Nat.zero_le _
    · intro h; simp [lays] at h
  | r :: l, h, k, hk => by
    rw [lays_cons] at hk ⊢
    by_cases hc : k < (layI r).length
    · have hcut : one ((layI r ++ lays l).take k) = none := one_cut _ hc
      refine ⟨0, Nat.zero_le _, ?_, ?_, fun _ => by simp⟩
      · rw [take_none hcut]; rfl
      · rw [take_none hcut]; exact Nat.zero_le _
    · obtain ⟨j, h1, h2, h3, h4⟩ := take_cut l (fun x hx => h x (by simp [hx])) (k - (layI r).length) (by rw [List.length_append] at hk; omega)
      have e : (layI r ++ lays l).take k = layI r ++ (lays l).take (k - (layI r).length) := by
        rw [List.take_append, List.take_of_length_le (by omega)]
      rw [e, take_some (one_layI (h r (by simp)) _), List.drop_left]
      refine ⟨j + 1, by simp; omega, by simp [h2], by simp only; omega, fun hlt => ?_⟩
      rw [List.length_append] at hlt
      have := h4 (by omega)
      simp; omega

/-- What is taken as fields has numbers that fit. -/
theorem wone_s64 {l r : List Nat} {f : Fld} (h8 : ∀ c ∈ l, c < 256) (h : wi.one l = some (f, r)) : var.S64 f.n ∧ ∀ c ∈ r, c < 256 := by
  cases h1 : var.vtake l with
  | none => rw [wi.one_none1 h1] at h; cases h
  | some p =>
    obtain ⟨k, m⟩ := p
    cases h2 : var.vtake m with
    | none => rw [wi.one_none2 h1 h2] at h; cases h
    | some q =>
      obtain ⟨n, s⟩ := q
      have hm := vtake8 h8 h1
      have hn := vtake_s64 hm h2
      have hs := vtake8 hm h2
      simp only [wi.one, h1, h2, Option.bind_some] at h
      split at h
      · split at h
        · simp at h
          obtain ⟨rfl, rfl⟩ := h
          exact ⟨hn, hs⟩
        · split at h
          · simp at h
            obtain ⟨rfl, rfl⟩ := h
            exact ⟨show (0 : Nat) < 18446744073709551616 by decide, fun x hx => hs x (List.mem_of_mem_drop hx)⟩
          · cases h
      · cases h
theorem wtake_s64 : ∀ (n : Nat) (l : List Nat) (fs : List Fld), l.length ≤ n → (∀ c ∈ l, c < 256) → wi.take l = some fs → ∀ f ∈ fs, var.S64 f.n
  | n, [], fs, _, _, h => by
    rw [wi.take_nil] at h
    injection h with h
    subst h
    simp
  | 0, x :: l, _, hn, _, _ => by simp at hn
  | n + 1, x :: l, fs, hn, h8, h => by
    cases h1 : wi.one (x :: l) with
    | none => rw [wi.take_none (by simp) h1] at h; cases h
    | some p =>
      obtain ⟨f, r⟩ := p
      have hlt := wi.one_lt h1
      rw [wi.take_some h1] at h
      have hf := wone_s64 h8 h1
      cases h2 : wi.take r with
      | none => rw [h2] at h; cases h
      | some hs =>
        rw [h2] at h
        simp at h
        subst h
        intro g hg
        rcases List.mem_cons.1 hg with rfl | hg
        · exact hf.1
        · exact wtake_s64 n r hs (by simp at hn hlt; omega) hf.2 h2 g hg
end Go.Proofs.Ytocpeiocgppkfaa.ty
