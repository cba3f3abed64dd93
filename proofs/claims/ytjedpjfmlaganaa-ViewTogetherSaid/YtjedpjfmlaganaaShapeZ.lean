/-
  What came in, read by its shape, with the reach of the form: no slice in it takes more than the form's reach of bytes.
-/
import Derived.Test.YtjedpjfmlaganaaShape
import Derived.SizedLaws
namespace Go.Proofs.Ytjedpjfmlaganaa
open Go.RowKit Go.ChangeShapes Go.WideShapes Go.Deep
set_option linter.unusedVariables false

inductive Zh where
  | bool
  | int (k : IntKind)
  | str
  | slice (n z : Nat) (e : Zh)
  | unit
  | pair (n : Nat) (a b : Zh)

/-- These cells read as the shape says, in blocks below B; no slice takes more than the reach. -/
def Zh.Ok : Zh → World → Nat → List Value → Prop
  | .bool, _, _, cs => ∃ b, cs = [.bool b]
  | .int k, _, _, cs => ∃ n, cs = [.int k n] ∧ (Lit.int k n).wf = true
  | .str, _, _, cs => ∃ s : ByteArray, cs = [.string s] ∧ s.size ≤ maxLen
  | .slice n z e, w, B, cs => ∃ A len cap, cs = [.slice A len cap] ∧ len ≤ cap ∧ cap ≤ maxLen ∧ (A = none → cap = 0) ∧ len * z ≤ reachBytes ∧
      ∀ i, i < len → ∃ b o ys, A = some ⟨b, o, none⟩ ∧ b < B ∧ ys.length = n ∧ (∀ j u, ys[j]? = some u → w.cell? ⟨b, o + (i * n + j), none⟩ = some u) ∧ e.Ok w B ys
  | .unit, _, _, cs => cs = []
  | .pair n a b, w, B, cs => a.Ok w B (cs.take n) ∧ b.Ok w B (cs.drop n)

/-- The type is of the shape: whole, or the rest of its parts from a place on. -/
def Zh.fits (P : Program) : Zh → TypeId ⊕ (List (TypeId × Nat) × Nat × Nat) → Bool
  | .bool, .inl t => match P.underlying t with | some .bool => true | _ => false
  | .int k, .inl t => match P.underlying t with | some (.int k') => decide (k' = k) | _ => false
  | .str, .inl t => match P.underlying t with | some .string => true | _ => false
  | .slice n z e, .inl t => match P.underlying t with | some (.slice e') => decide (P.cellsOf e' = n) && decide (0 < n) && decide (P.bytesOf e' = z) && e.fits P (.inl e') | _ => false
  | .unit, .inr (l, off, tot) => l.isEmpty && decide (off = tot)
  | .pair n a b, .inl t => match P.underlying t with
    | some (.struct fs) => match fs.toList.map fun f => (f.type, f.offset) with
      | (t', o) :: r => decide (o = 0) && decide (P.cellsOf t' = n) && a.fits P (.inl t') && b.fits P (.inr (r, n, P.cellsOf t))
      | _ => false
    | _ => false
  | .pair n a b, .inr ((t', o) :: r, off, tot) => decide (o = off) && decide (P.cellsOf t' = n) && a.fits P (.inl t') && b.fits P (.inr (r, off + n, tot))
  | _, _ => false

theorem weightsAll_mem {H : Type} {P : Program} {e : TypeId} {n : Nat} {d : DataW H} (hn : n ∈ d.weights P e) : ∀ {ds : List (DataW H)}, d ∈ ds → n ∈ DataW.weightsAll P e ds
  | [], h => by simp at h
  | d0 :: ds, h => by
    simp only [DataW.weightsAll, List.mem_append]
    rcases List.mem_cons.1 h with rfl | h
    · exact .inl hn
    · exact .inr (weightsAll_mem hn h)

section
variable {H : Type} {enc : TypeId × Value → H} {P : Program} {w : World} {spare : Nat → Bool} {held : Bool}

theorem parts_trod_z {t : TypeId} {fs : Array Field} (hu : P.underlying t = some (.struct fs)) {fuel : Nat} {cs : List Value} {x : DataW H × List MemPlace} (h : DataW.trod enc P w 0 spare held fuel t cs = some x) (hw : ∀ n ∈ x.1.weights P t, n ≤ reachBytes) :
    cs.length = P.cellsOf t ∧ ∃ n, ∀ (i : Nat) (y : TypeId × Nat), (fs.toList.map fun f => (f.type, f.offset))[i]? = some y → ∃ z, DataW.trod enc P w 0 spare held n y.1 ((cs.drop y.2).take (P.cellsOf y.1)) = some z ∧ ∀ n ∈ z.1.weights P y.1, n ≤ reachBytes := by
  obtain ⟨xs, n, _, hx, hl, hxs, hf⟩ := DataW.trod_struct hu h
  subst hx
  refine ⟨hl, n, fun i y hy => ?_⟩
  rw [List.getElem?_map] at hy
  obtain ⟨f, hf1, rfl⟩ := Option.map_eq_some_iff.1 hy
  have hf2 : fs[i]? = some f := by simpa using hf1
  have hi : i < xs.length := by rw [hxs]; exact (Array.getElem?_eq_some_iff.1 hf2).1
  refine ⟨xs[i], (hf i f hf2).trans (List.getElem?_eq_getElem hi), fun m hm => hw m ?_⟩
  simp only [DataW.weights, hu]
  exact DataW.weights_mem_each (j := i) (t := f.type) (d := xs[i].1) (by rw [List.getElem?_map, hf1]; rfl) (by rw [List.getElem?_map, List.getElem?_eq_getElem hi]; rfl) m hm

theorem Zh.ok_of_trod : ∀ (s : Zh) (q : TypeId ⊕ (List (TypeId × Nat) × Nat × Nat)), s.fits P q = true →
    match q with
    | .inl t => ∀ (fuel : Nat) (cs : List Value) (x : DataW H × List MemPlace), DataW.trod enc P w 0 spare held fuel t cs = some x → (∀ n ∈ x.1.weights P t, n ≤ reachBytes) → s.Ok w w.heap.size cs
    | .inr (l, off, tot) => ∀ (fuel : Nat) (cs : List Value), cs.length = tot → (∀ (i : Nat) (y : TypeId × Nat), l[i]? = some y → ∃ z, DataW.trod enc P w 0 spare held fuel y.1 ((cs.drop y.2).take (P.cellsOf y.1)) = some z ∧ ∀ n ∈ z.1.weights P y.1, n ≤ reachBytes) → s.Ok w w.heap.size (cs.drop off) := by
  intro s
  induction s with
  | bool =>
    rintro (t | q) h
    · simp only [Zh.fits] at h
      split at h
      · rename_i hu
        intro fuel cs x hx _
        obtain ⟨b, rfl, _⟩ := DataW.trod_bool hu hx
        exact ⟨b, rfl⟩
      · cases h
    · simp [Zh.fits] at h
  | int k =>
    rintro (t | q) h
    · simp only [Zh.fits] at h
      split at h
      · rename_i k' hu
        obtain rfl := of_decide_eq_true h
        intro fuel cs x hx _
        obtain ⟨n, rfl, _, hn⟩ := DataW.trod_int hu hx
        exact ⟨n, rfl, hn⟩
      · cases h
    · simp [Zh.fits] at h
  | str =>
    rintro (t | q) h
    · simp only [Zh.fits] at h
      split at h
      · rename_i hu
        intro fuel cs x hx _
        obtain ⟨b, rfl, _, hb⟩ := DataW.trod_string hu hx
        exact ⟨b, rfl, hb⟩
      · cases h
    · simp [Zh.fits] at h
  | slice n z e ih =>
    rintro (t | q) h
    · simp only [Zh.fits] at h
      split at h
      · rename_i e' hu
        simp only [Bool.and_eq_true, decide_eq_true_eq] at h
        obtain ⟨⟨⟨hc, hn⟩, hz⟩, he⟩ := h
        intro fuel cs x hx hw
        rcases open_slice hu hx with ⟨rfl, _⟩ | ⟨a, len, cap, m, f, D, Pl, rfl, _, hl, hm, hmm, hxe, hi⟩
        · exact ⟨none, 0, 0, rfl, Nat.le_refl _, by simp, fun _ => rfl, by simp, fun i hi => by omega⟩
        · subst hxe
          have hle : len ≤ m := by rw [hmm]; split <;> omega
          have hwz := hw ((((List.range len).map D).length + ((List.range (m - len)).map fun j => D (len + j)).length) * P.bytesOf e') (by simp only [DataW.weights, hu]; exact List.mem_cons_self)
          simp only [List.length_map, List.length_range, hz] at hwz
          refine ⟨some a, len, cap, rfl, hl, hm, (fun h => by cases h), Nat.le_trans (Nat.mul_le_mul_right z (by omega)) hwz, fun i hil => ?_⟩
          have hspot : a.spot = none := by
            obtain ⟨cs0, h0, _⟩ := hi 0 (by omega)
            obtain ⟨_, hl0, ha⟩ := World.cells?_some h0
            have h1 := ha 0 (by omega)
            rw [List.getElem?_eq_getElem (by omega)] at h1
            have e0 : (a.add (0 * P.cellsOf e')).add 0 = a := by simp [Addr.add]
            rw [e0] at h1
            exact World.cell?_spot h1
          obtain ⟨b, o, sp⟩ := a
          simp only at hspot
          subst hspot
          obtain ⟨ys, hy, ht⟩ := hi i (by omega)
          obtain ⟨_, hyl, hya⟩ := World.cells?_some hy
          have hcell : ∀ j u, ys[j]? = some u → w.cell? ⟨b, o + (i * n + j), none⟩ = some u := fun j u hj => by
            have hjl : j < P.cellsOf e' := by
              have := (List.getElem?_eq_some_iff.1 hj).1; omega
            have h1 := hya j hjl
            rw [add_eq, add_eq, hj, hc] at h1
            rw [show o + (i * n + j) = o + i * n + j by omega]
            exact h1
          have hblt : b < w.heap.size := by
            have h1 := hcell 0 ys[0] (List.getElem?_eq_getElem (by omega))
            exact block_lt_of_cell h1
          refine ⟨b, o, ys, rfl, hblt, by omega, hcell, ih (.inl e') he _ _ _ ht fun k hk => hw k ?_⟩
          simp only [DataW.weights, hu]
          exact List.mem_cons_of_mem _ (List.mem_append_left _ (weightsAll_mem hk (List.mem_map.2 ⟨i, List.mem_range.2 hil, rfl⟩)))
      · cases h
    · simp [Zh.fits] at h
  | unit =>
    rintro (t | ⟨l, off, tot⟩) h
    · simp [Zh.fits] at h
    · simp only [Zh.fits, Bool.and_eq_true, decide_eq_true_eq] at h
      intro fuel cs hcs _
      show cs.drop off = []
      exact List.drop_eq_nil_of_le (by omega)
  | pair n a b iha ihb =>
    rintro (t | ⟨l, off, tot⟩) h
    · simp only [Zh.fits] at h
      split at h
      · rename_i fs hu
        split at h
        · rename_i t' o r hp
          simp only [Bool.and_eq_true, decide_eq_true_eq] at h
          obtain ⟨⟨⟨rfl, hc⟩, ha⟩, hb⟩ := h
          intro fuel cs x hx hw
          obtain ⟨hl, f, hf⟩ := parts_trod_z hu hx hw
          rw [hp] at hf
          refine ⟨?_, ihb (.inr (r, n, P.cellsOf t)) hb f cs hl (fun i y hy => hf (i + 1) y (by simpa using hy))⟩
          obtain ⟨z, hz, hzw⟩ := hf 0 (t', 0) (by simp)
          simp only [List.drop_zero, hc] at hz
          exact iha (.inl t') ha _ _ _ hz hzw
        · cases h
      · cases h
    · rcases l with _ | ⟨⟨t', o⟩, r⟩
      · simp [Zh.fits] at h
      · simp only [Zh.fits, Bool.and_eq_true, decide_eq_true_eq] at h
        obtain ⟨⟨⟨rfl, hc⟩, ha⟩, hb⟩ := h
        intro fuel cs hcs hf
        refine ⟨?_, ?_⟩
        · obtain ⟨z, hz, hzw⟩ := hf 0 (t', o) (by simp)
          simp only [hc] at hz
          exact iha (.inl t') ha _ _ _ hz hzw
        · rw [List.drop_drop]
          exact ihb (.inr (r, o + n, tot)) hb fuel cs hcs (fun i y hy => hf (i + 1) y (by simpa using hy))

theorem zok_of_Trod (s : Zh) {t : TypeId} {v : Value} {d : DataW H} {ps : List MemPlace} (hf : s.fits P (.inl t) = true) (h : DataW.Trod enc P w 0 spare held t v d ps) (hw : ∀ n ∈ d.weights P t, n ≤ reachBytes) : s.Ok w w.heap.size v.cells.toList := by
  obtain ⟨fuel, hx⟩ := h
  exact Zh.ok_of_trod s (.inl t) hf fuel _ _ hx hw
end

/-- A slice's elements as a list, where what an element reads as is told by f and p. -/
theorem zok_slice {α : Type} {w : World} {B n z : Nat} {e : Zh} {v : Value} (f : α → List Value) (p : α → Prop) (hf : ∀ ys, e.Ok w B ys → ∃ x, p x ∧ ys = f x) (hn : ∀ x, (f x).length = n)
    (h : (Zh.slice n z e).Ok w B [v]) : ∃ A len cap, ∃ xs : List α, v = .slice A len cap ∧ xs.length = len ∧ len ≤ cap ∧ cap ≤ maxLen ∧ (A = none → cap = 0) ∧ len * z ≤ reachBytes ∧ (∀ x ∈ xs, p x) ∧ Row w B A (xs.flatMap f) := by
  obtain ⟨A, len, cap, hv, hl, hc, hA, hz, hi⟩ := h
  obtain rfl : v = .slice A len cap := by simpa using hv
  have key : ∀ k, k ≤ len → ∃ xs : List α, xs.length = k ∧ (∀ x ∈ xs, p x) ∧ ∀ i x, xs[i]? = some x → ∃ b o, A = some ⟨b, o, none⟩ ∧ b < B ∧ ∀ j u, (f x)[j]? = some u → w.cell? ⟨b, o + (i * n + j), none⟩ = some u := by
    intro k
    induction k with
    | zero => exact fun _ => ⟨[], rfl, by simp, fun i x h => by simp at h⟩
    | succ k ih =>
      intro hk
      obtain ⟨xs, hxl, hxp, hx⟩ := ih (by omega)
      obtain ⟨b, o, ys, hb, hbB, _, hcell, hok⟩ := hi k (by omega)
      obtain ⟨y, hpy, rfl⟩ := hf ys hok
      refine ⟨xs ++ [y], by simp [hxl], ?_, fun i x hix => ?_⟩
      · intro x hx
        rcases List.mem_append.1 hx with hx | hx
        · exact hxp x hx
        · rw [List.mem_singleton.1 hx]; exact hpy
      · rcases Nat.lt_or_ge i k with hik | hik
        · rw [List.getElem?_append_left (by omega)] at hix
          exact hx i x hix
        · have hlt := (List.getElem?_eq_some_iff.1 hix).1
          obtain rfl : i = k := by simp at hlt; omega
          rw [List.getElem?_append_right (by omega), hxl, Nat.sub_self] at hix
          simp at hix
          subst hix
          exact ⟨b, o, hb, hbB, hcell⟩
  obtain ⟨xs, hxl, hxp, hx⟩ := key len (Nat.le_refl _)
  refine ⟨A, len, cap, xs, rfl, hxl, hl, hc, hA, hz, hxp, ?_⟩
  have hflat : ∀ (l : List α) (m : Nat) (u : Value), (l.flatMap f)[m]? = some u → ∃ i x j, m = i * n + j ∧ l[i]? = some x ∧ (f x)[j]? = some u := by
    intro l
    induction l with
    | nil => intro m u h; simp at h
    | cons y l ih =>
      intro m u h
      rw [List.flatMap_cons] at h
      rcases Nat.lt_or_ge m (f y).length with hm | hm
      · rw [List.getElem?_append_left hm] at h
        exact ⟨0, y, m, by omega, rfl, h⟩
      · rw [List.getElem?_append_right hm, hn] at h
        obtain ⟨i, x, j, hmj, hix, hj⟩ := ih _ _ h
        refine ⟨i + 1, x, j, ?_, by simpa using hix, hj⟩
        rw [hn] at hm
        rw [Nat.add_mul, Nat.one_mul]
        omega
  intro hne
  have hx0 : xs ≠ [] := by rintro rfl; simp at hne
  obtain ⟨b, o, hb, hbB, _⟩ := hx 0 (xs[0]'(by cases xs; exact absurd rfl hx0; simp)) (List.getElem?_eq_getElem _)
  refine ⟨b, o, hb, hbB, fun m u hm => ?_⟩
  obtain ⟨i, x, j, rfl, hix, hj⟩ := hflat xs m u hm
  obtain ⟨b', o', hb', _, hc'⟩ := hx i x hix
  rw [hb] at hb'
  injection hb' with hb'
  injection hb' with h1 h2
  subst h1; subst h2
  exact hc' j u hj
theorem zok_cons {w : World} {B : Nat} {a b : Zh} {cs : List Value} (h : (Zh.pair 1 a b).Ok w B cs) (ha : ∀ ys, a.Ok w B ys → ys.length = 1) : ∃ c r, cs = c :: r ∧ a.Ok w B [c] ∧ b.Ok w B r := by
  obtain ⟨h1, h2⟩ := h
  have hl := ha _ h1
  rcases cs with _ | ⟨c, r⟩
  · simp at hl
  · exact ⟨c, r, rfl, by simpa using h1, by simpa using h2⟩
theorem zone_int {w : World} {B : Nat} {k : IntKind} (ys : List Value) (h : (Zh.int k).Ok w B ys) : ys.length = 1 := by
  obtain ⟨n, rfl, _⟩ := h; rfl
theorem zone_bool {w : World} {B : Nat} (ys : List Value) (h : Zh.bool.Ok w B ys) : ys.length = 1 := by
  obtain ⟨n, rfl⟩ := h; rfl
theorem zone_str {w : World} {B : Nat} (ys : List Value) (h : Zh.str.Ok w B ys) : ys.length = 1 := by
  obtain ⟨n, rfl, _⟩ := h; rfl
theorem zone_slice {w : World} {B n z : Nat} {e : Zh} (ys : List Value) (h : (Zh.slice n z e).Ok w B ys) : ys.length = 1 := by
  obtain ⟨A, l, c, rfl, _⟩ := h; rfl
end Go.Proofs.Ytjedpjfmlaganaa
