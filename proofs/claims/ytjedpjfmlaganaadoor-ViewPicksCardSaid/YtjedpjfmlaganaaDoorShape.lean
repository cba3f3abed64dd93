/-
  What came in, read by its shape: bools, integers, texts, slices, structs and arrays of these, over any program.
-/
import Derived.Test.YtjedpjfmlaganaaDoorMem
import Derived.ProofKit
import Derived.OpenShut
import Derived.ShutString
import Derived.ChangeOld
import Derived.Deep.Slices
namespace Go.Proofs.YtjedpjfmlaganaaDoor
open Go.RowKit Go.ChangeShapes Go.WideShapes Go.Deep

inductive Sh where
  | bool
  | int (k : IntKind)
  | str
  | slice (n : Nat) (e : Sh)
  | unit
  | pair (n : Nat) (a b : Sh)

/-- These cells read as the shape says, in blocks below B. -/
def Sh.Ok : Sh → World → Nat → List Value → Prop
  | .bool, _, _, cs => ∃ b, cs = [.bool b]
  | .int k, _, _, cs => ∃ n, cs = [.int k n] ∧ (Lit.int k n).wf = true
  | .str, _, _, cs => ∃ s : ByteArray, cs = [.string s] ∧ s.size ≤ maxLen
  | .slice n e, w, B, cs => ∃ A len cap, cs = [.slice A len cap] ∧ len ≤ cap ∧ cap ≤ maxLen ∧ (A = none → cap = 0) ∧
      ∀ i, i < len → ∃ b o ys, A = some ⟨b, o, none⟩ ∧ b < B ∧ ys.length = n ∧ (∀ j u, ys[j]? = some u → w.cell? ⟨b, o + (i * n + j), none⟩ = some u) ∧ e.Ok w B ys
  | .unit, _, _, cs => cs = []
  | .pair n a b, w, B, cs => a.Ok w B (cs.take n) ∧ b.Ok w B (cs.drop n)

def partsOf (P : Program) (t : TypeId) : Option (List (TypeId × Nat)) :=
  match P.underlying t with
  | some (.struct fs) => some (fs.toList.map fun f => (f.type, f.offset))
  | some (.array m e) => some ((List.range m).map fun i => (e, i * P.cellsOf e))
  | _ => none

/-- The type is of the shape: whole, or the rest of its parts from a place on. -/
def Sh.fits (P : Program) : Sh → TypeId ⊕ (List (TypeId × Nat) × Nat × Nat) → Bool
  | .bool, .inl t => match P.underlying t with | some .bool => true | _ => false
  | .int k, .inl t => match P.underlying t with | some (.int k') => decide (k' = k) | _ => false
  | .str, .inl t => match P.underlying t with | some .string => true | _ => false
  | .slice n e, .inl t => match P.underlying t with | some (.slice e') => decide (P.cellsOf e' = n) && decide (0 < n) && e.fits P (.inl e') | _ => false
  | .unit, .inl t => match partsOf P t with | some [] => decide (P.cellsOf t = 0) | _ => false
  | .unit, .inr (l, off, tot) => l.isEmpty && decide (off = tot)
  | .pair n a b, .inl t => match partsOf P t with
    | some ((t', o) :: r) => decide (o = 0) && decide (P.cellsOf t' = n) && a.fits P (.inl t') && b.fits P (.inr (r, n, P.cellsOf t))
    | _ => false
  | .pair n a b, .inr ((t', o) :: r, off, tot) => decide (o = off) && decide (P.cellsOf t' = n) && a.fits P (.inl t') && b.fits P (.inr (r, off + n, tot))
  | _, _ => false

section
variable {H : Type} {enc : TypeId × Value → H} {P : Program} {w : World} {spare : Nat → Bool} {held : Bool}

theorem parts_trod {t : TypeId} {l : List (TypeId × Nat)} (hp : partsOf P t = some l) {fuel : Nat} {cs : List Value} {x : DataW H × List MemPlace} (h : DataW.trod enc P w 0 spare held fuel t cs = some x) :
    cs.length = P.cellsOf t ∧ ∃ n, ∀ (i : Nat) (y : TypeId × Nat), l[i]? = some y → ∃ z, DataW.trod enc P w 0 spare held n y.1 ((cs.drop y.2).take (P.cellsOf y.1)) = some z := by
  unfold partsOf at hp
  split at hp
  · rename_i fs hu
    injection hp with hp
    subst hp
    obtain ⟨xs, n, _, _, hl, hxs, hf⟩ := DataW.trod_struct hu h
    refine ⟨hl, n, fun i y hy => ?_⟩
    rw [List.getElem?_map] at hy
    obtain ⟨f, hf1, rfl⟩ := Option.map_eq_some_iff.1 hy
    have hf2 : fs[i]? = some f := by simpa using hf1
    have hi : i < xs.length := by rw [hxs]; exact (Array.getElem?_eq_some_iff.1 hf2).1
    exact ⟨xs[i], (hf i f hf2).trans (List.getElem?_eq_getElem hi)⟩
  · rename_i m e hu
    injection hp with hp
    subst hp
    obtain ⟨xs, n, _, _, hl, hxs, hf⟩ := DataW.trod_array hu h
    refine ⟨hl, n, fun i y hy => ?_⟩
    rw [List.getElem?_map] at hy
    obtain ⟨j, hj1, rfl⟩ := Option.map_eq_some_iff.1 hy
    have hi : i < m := by
      have := (List.getElem?_eq_some_iff.1 hj1).1
      simpa using this
    rw [List.getElem?_range hi] at hj1
    injection hj1 with hj1
    subst hj1
    exact ⟨xs[i], (hf i hi).trans (List.getElem?_eq_getElem (by omega))⟩
  · cases hp

theorem Sh.ok_of_trod : ∀ (s : Sh) (q : TypeId ⊕ (List (TypeId × Nat) × Nat × Nat)), s.fits P q = true →
    match q with
    | .inl t => ∀ (fuel : Nat) (cs : List Value) (x : DataW H × List MemPlace), DataW.trod enc P w 0 spare held fuel t cs = some x → s.Ok w w.heap.size cs
    | .inr (l, off, tot) => ∀ (fuel : Nat) (cs : List Value), cs.length = tot → (∀ (i : Nat) (y : TypeId × Nat), l[i]? = some y → ∃ z, DataW.trod enc P w 0 spare held fuel y.1 ((cs.drop y.2).take (P.cellsOf y.1)) = some z) → s.Ok w w.heap.size (cs.drop off) := by
  intro s
  induction s with
  | bool =>
    rintro (t | q) h
    · simp only [Sh.fits] at h
      split at h
      · rename_i hu
        intro fuel cs x hx
        obtain ⟨b, rfl, _⟩ := DataW.trod_bool hu hx
        exact ⟨b, rfl⟩
      · cases h
    · simp [Sh.fits] at h
  | int k =>
    rintro (t | q) h
    · simp only [Sh.fits] at h
      split at h
      · rename_i k' hu
        obtain rfl := of_decide_eq_true h
        intro fuel cs x hx
        obtain ⟨n, rfl, _, hn⟩ := DataW.trod_int hu hx
        exact ⟨n, rfl, hn⟩
      · cases h
    · simp [Sh.fits] at h
  | str =>
    rintro (t | q) h
    · simp only [Sh.fits] at h
      split at h
      · rename_i hu
        intro fuel cs x hx
        obtain ⟨b, rfl, _, hb⟩ := DataW.trod_string hu hx
        exact ⟨b, rfl, hb⟩
      · cases h
    · simp [Sh.fits] at h
  | slice n e ih =>
    rintro (t | q) h
    · simp only [Sh.fits] at h
      split at h
      · rename_i e' hu
        simp only [Bool.and_eq_true, decide_eq_true_eq] at h
        obtain ⟨⟨hc, hn⟩, he⟩ := h
        intro fuel cs x hx
        rcases open_slice hu hx with ⟨rfl, _⟩ | ⟨a, len, cap, m, f, D, Pl, rfl, _, hl, hm, hmm, _, hi⟩
        · exact ⟨none, 0, 0, rfl, Nat.le_refl _, by simp, fun _ => rfl, fun i hi => by omega⟩
        · refine ⟨some a, len, cap, rfl, hl, hm, (fun h => by cases h), fun i hil => ?_⟩
          have hle : len ≤ m := by rw [hmm]; split <;> omega
          have hspot : a.spot = none := by
            obtain ⟨cs0, h0, _⟩ := hi 0 (by omega)
            obtain ⟨_, hl0, ha⟩ := World.cells?_some h0
            have h1 := ha 0 (by omega)
            rw [List.getElem?_eq_getElem (by omega)] at h1
            have e0 : (a.add (0 * P.cellsOf e')).add 0 = a := by simp [Addr.add]
            rw [e0] at h1
            exact World.cell?_spot h1
          obtain ⟨b, o, sp⟩ := a
          simp only at hspot
          subst hspot
          obtain ⟨ys, hy, ht⟩ := hi i (by omega)
          obtain ⟨_, hyl, hya⟩ := World.cells?_some hy
          have hcell : ∀ j u, ys[j]? = some u → w.cell? ⟨b, o + (i * n + j), none⟩ = some u := fun j u hj => by
            have hjl : j < P.cellsOf e' := by
              have := (List.getElem?_eq_some_iff.1 hj).1; omega
            have h1 := hya j hjl
            rw [add_eq, add_eq, hj, hc] at h1
            rw [show o + (i * n + j) = o + i * n + j by omega]
            exact h1
          have hblt : b < w.heap.size := by
            have h1 := hcell 0 ys[0] (List.getElem?_eq_getElem (by omega))
            exact block_lt_of_cell h1
          exact ⟨b, o, ys, rfl, hblt, by omega, hcell, ih (.inl e') he _ _ _ ht⟩
      · cases h
    · simp [Sh.fits] at h
  | unit =>
    rintro (t | ⟨l, off, tot⟩) h
    · simp only [Sh.fits] at h
      split at h
      · rename_i hp
        intro fuel cs x hx
        have := (parts_trod hp hx).1
        rw [of_decide_eq_true h] at this
        exact List.eq_nil_of_length_eq_zero this
      · cases h
    · simp only [Sh.fits, Bool.and_eq_true, decide_eq_true_eq] at h
      intro fuel cs hcs _
      show cs.drop off = []
      exact List.drop_eq_nil_of_le (by omega)
  | pair n a b iha ihb =>
    rintro (t | ⟨l, off, tot⟩) h
    · simp only [Sh.fits] at h
      split at h
      · rename_i t' o r hp
        simp only [Bool.and_eq_true, decide_eq_true_eq] at h
        obtain ⟨⟨⟨rfl, hc⟩, ha⟩, hb⟩ := h
        intro fuel cs x hx
        obtain ⟨hl, f, hf⟩ := parts_trod hp hx
        refine ⟨?_, ihb (.inr (r, n, P.cellsOf t)) hb f cs hl (fun i y hy => hf (i + 1) y (by simpa using hy))⟩
        obtain ⟨z, hz⟩ := hf 0 (t', 0) (by simp)
        simp only [List.drop_zero, hc] at hz
        exact iha (.inl t') ha _ _ _ hz
      · cases h
    · rcases l with _ | ⟨⟨t', o⟩, r⟩
      · simp [Sh.fits] at h
      · simp only [Sh.fits, Bool.and_eq_true, decide_eq_true_eq] at h
        obtain ⟨⟨⟨rfl, hc⟩, ha⟩, hb⟩ := h
        intro fuel cs hcs hf
        refine ⟨?_, ?_⟩
        · obtain ⟨z, hz⟩ := hf 0 (t', o) (by simp)
          simp only [hc] at hz
          exact iha (.inl t') ha _ _ _ hz
        · rw [List.drop_drop]
          exact ihb (.inr (r, o + n, tot)) hb fuel cs hcs (fun i y hy => hf (i + 1) y (by simpa using hy))

theorem ok_of_Trod (s : Sh) {t : TypeId} {v : Value} {d : DataW H} {ps : List MemPlace} (hf : s.fits P (.inl t) = true) (h : DataW.Trod enc P w 0 spare held t v d ps) : s.Ok w w.heap.size v.cells.toList := by
  obtain ⟨fuel, hx⟩ := h
  exact Sh.ok_of_trod s (.inl t) hf fuel _ _ hx
end

/-- A slice's elements as a list, where what an element reads as is told by f and p. -/
theorem ok_slice {α : Type} {w : World} {B n : Nat} {e : Sh} {v : Value} (f : α → List Value) (p : α → Prop) (hf : ∀ ys, e.Ok w B ys → ∃ x, p x ∧ ys = f x) (hn : ∀ x, (f x).length = n)
    (h : (Sh.slice n e).Ok w B [v]) : ∃ A len cap, ∃ xs : List α, v = .slice A len cap ∧ xs.length = len ∧ len ≤ cap ∧ cap ≤ maxLen ∧ (A = none → cap = 0) ∧ (∀ x ∈ xs, p x) ∧ Row w B A (xs.flatMap f) := by
  obtain ⟨A, len, cap, hv, hl, hc, hA, hi⟩ := h
  obtain rfl : v = .slice A len cap := by simpa using hv
  have key : ∀ k, k ≤ len → ∃ xs : List α, xs.length = k ∧ (∀ x ∈ xs, p x) ∧ ∀ i x, xs[i]? = some x → ∃ b o, A = some ⟨b, o, none⟩ ∧ b < B ∧ ∀ j u, (f x)[j]? = some u → w.cell? ⟨b, o + (i * n + j), none⟩ = some u := by
    intro k
    induction k with
    | zero => exact fun _ => ⟨[], rfl, by simp, fun i x h => by simp at h⟩
    | succ k ih =>
      intro hk
      obtain ⟨xs, hxl, hxp, hx⟩ := ih (by omega)
      obtain ⟨b, o, ys, hb, hbB, _, hcell, hok⟩ := hi k (by omega)
      obtain ⟨y, hpy, rfl⟩ := hf ys hok
      refine ⟨xs ++ [y], by simp [hxl], ?_, fun i x hix => ?_⟩
      · intro x hx
        rcases List.mem_append.1 hx with hx | hx
        · exact hxp x hx
        · rw [List.mem_singleton.1 hx]; exact hpy
      · rcases Nat.lt_or_ge i k with hik | hik
        · rw [List.getElem?_append_left (by omega)] at hix
          exact hx i x hix
        · have hlt := (List.getElem?_eq_some_iff.1 hix).1
          obtain rfl : i = k := by simp at hlt; omega
          rw [List.getElem?_append_right (by omega), hxl, Nat.sub_self] at hix
          simp at hix
          subst hix
          exact ⟨b, o, hb, hbB, hcell⟩
  obtain ⟨xs, hxl, hxp, hx⟩ := key len (Nat.le_refl _)
  refine ⟨A, len, cap, xs, rfl, hxl, hl, hc, hA, hxp, ?_⟩
  have hflat : ∀ (l : List α) (m : Nat) (u : Value), (l.flatMap f)[m]? = some u → ∃ i x j, m = i * n + j ∧ l[i]? = some x ∧ (f x)[j]? = some u := by
    intro l
    induction l with
    | nil => intro m u h; simp at h
    | cons y l ih =>
      intro m u h
      rw [List.flatMap_cons] at h
      rcases Nat.lt_or_ge m (f y).length with hm | hm
      · rw [List.getElem?_append_left hm] at h
        exact ⟨0, y, m, by omega, rfl, h⟩
      · rw [List.getElem?_append_right hm, hn] at h
        obtain ⟨i, x, j, hmj, hix, hj⟩ := ih _ _ h
        refine ⟨i + 1, x, j, ?_, by simpa using hix, hj⟩
        rw [hn] at hm
        rw [Nat.add_mul, Nat.one_mul]
        omega
  intro hne
  have hx0 : xs ≠ [] := by rintro rfl; simp at hne
  obtain ⟨b, o, hb, hbB, _⟩ := hx 0 (xs[0]'(by cases xs; exact absurd rfl hx0; simp)) (List.getElem?_eq_getElem _)
  refine ⟨b, o, hb, hbB, fun m u hm => ?_⟩
  obtain ⟨i, x, j, rfl, hix, hj⟩ := hflat xs m u hm
  obtain ⟨b', o', hb', _, hc'⟩ := hx i x hix
  rw [hb] at hb'
  injection hb' with hb'
  injection hb' with h1 h2
  subst h1; subst h2
  exact hc' j u hj

theorem flatMap_one {α β : Type} (f : α → β) (l : List α) : l.flatMap (fun x => [f x]) = l.map f := by
  induction l with
  | nil => rfl
  | cons x l ih => simp [ih]

/-- A row of bytes that came in. -/
theorem ok_bytes {w : World} {B : Nat} {v : Value} (h : (Sh.slice 1 (.int .u8)).Ok w B [v]) :
    ∃ A len cap, ∃ l : List Nat, v = .slice A len cap ∧ l.length = len ∧ len ≤ cap ∧ cap ≤ maxLen ∧ (A = none → cap = 0) ∧ (∀ x ∈ l, x < 256) ∧ Row w B A (u8s l) := by
  obtain ⟨A, len, cap, xs, h1, h2, h3, h4, h5, h6, h7⟩ := ok_slice (fun x : Nat => [.int .u8 (x : Int)]) (· < 256) (fun ys hy => by
    obtain ⟨n, rfl, hn⟩ := hy
    have hb := bounds_u8 hn
    exact ⟨n.toNat, by omega, by rw [Int.toNat_of_nonneg hb.1]⟩) (fun _ => rfl) h
  rw [flatMap_one] at h7
  exact ⟨A, len, cap, xs, h1, h2, h3, h4, h5, h6, h7⟩

theorem okWide_array {P : Program} {w : World} {r : Reach} {base : Nat} {v : Value} {t e : TypeId} {n : Nat} (ht : P.underlying t = some (.array n e)) (h : Value.okWide P w r base t v) : ∃ cs, v = .agg cs ∧ cs.size = P.cellsOf t := by
  simp only [Value.okWide, ht] at h
  obtain ⟨cs, h1, h2, _⟩ := h
  exact ⟨cs, h1, h2⟩
/-- The first cell of a pair, where it is one. -/
theorem ok_cons {w : World} {B : Nat} {a b : Sh} {cs : List Value} (h : (Sh.pair 1 a b).Ok w B cs) (ha : ∀ ys, a.Ok w B ys → ys.length = 1) : ∃ c r, cs = c :: r ∧ a.Ok w B [c] ∧ b.Ok w B r := by
  obtain ⟨h1, h2⟩ := h
  have hl := ha _ h1
  rcases cs with _ | ⟨c, r⟩
  · simp at hl
  · exact ⟨c, r, rfl, by simpa using h1, by simpa using h2⟩
theorem one_of_int {w : World} {B : Nat} {k : IntKind} (ys : List Value) (h : (Sh.int k).Ok w B ys) : ys.length = 1 := by
  obtain ⟨n, rfl, _⟩ := h; rfl
theorem one_of_bool {w : World} {B : Nat} (ys : List Value) (h : Sh.bool.Ok w B ys) : ys.length = 1 := by
  obtain ⟨n, rfl⟩ := h; rfl
theorem one_of_str {w : World} {B : Nat} (ys : List Value) (h : Sh.str.Ok w B ys) : ys.length = 1 := by
  obtain ⟨n, rfl, _⟩ := h; rfl
theorem one_of_slice {w : World} {B n : Nat} {e : Sh} (ys : List Value) (h : (Sh.slice n e).Ok w B ys) : ys.length = 1 := by
  obtain ⟨A, l, c, rfl, _⟩ := h; rfl
theorem ok_u8 {w : World} {B : Nat} {c : Value} (h : (Sh.int .u8).Ok w B [c]) : ∃ x : Nat, x < 256 ∧ c = .int .u8 (x : Int) := by
  obtain ⟨n, hc, hn⟩ := h
  have hb := bounds_u8 hn
  exact ⟨n.toNat, by omega, by rw [Int.toNat_of_nonneg hb.1]; simpa using hc⟩
theorem ok_two8 {w : World} {B : Nat} {cs : List Value} (h : (Sh.pair 1 (.int .u8) (.pair 1 (.int .u8) .unit)).Ok w B cs) : ∃ x y : Nat, x < 256 ∧ y < 256 ∧ cs = [.int .u8 (x : Int), .int .u8 (y : Int)] := by
  obtain ⟨c, r, rfl, h1, h2⟩ := ok_cons h one_of_int
  obtain ⟨d, r, rfl, h3, h4⟩ := ok_cons h2 one_of_int
  obtain ⟨x, hx, rfl⟩ := ok_u8 h1
  obtain ⟨y, hy, rfl⟩ := ok_u8 h3
  obtain rfl : r = [] := h4
  exact ⟨x, y, hx, hy, rfl⟩

/-- All arguments read as they did, where nothing that was there has turned. -/
theorem belowAll {H : Type} {enc : TypeId × Value → H} {P : Program} (hl : laidOutB P = true) {W W' : World} (hb : Below W.heap.size W W') :
    ∀ (ts : List TypeId) (vs : List Value) (ds : List (DataW H)) (ps : List MemPlace), (ts.all fun t => P.readableRec t && decide (t < P.types.size)) = true →
      DataW.TrodAll enc P W 0 (fun _ => true) true ts vs ds ps → DataW.TrodAll enc P W' 0 (fun b => decide (b < W.heap.size)) true ts vs ds ps
  | [], [], [], _, _, h => h
  | t :: ts, v :: vs, d :: ds, ps, ht, h => by
    obtain ⟨p, q, h1, h2, h3⟩ := h
    simp only [List.all_cons, Bool.and_eq_true, decide_eq_true_eq] at ht
    refine ⟨p, q, Below.trod hl ht.1.1 ht.1.2 h1 hb (fun x hx => ?_), belowAll hl hb ts vs ds q ht.2 h2, h3⟩
    obtain ⟨m, hm⟩ := h1
    exact DataW.trod_lt m _ _ _ hm x hx
  | [], [], _ :: _, _, _, h => h.elim
  | [], _ :: _, _, _, _, h => h.elim
  | _ :: _, [], _, _, _, h => h.elim
  | _ :: _, _ :: _, [], _, _, h => h.elim
end Go.Proofs.YtjedpjfmlaganaaDoor
