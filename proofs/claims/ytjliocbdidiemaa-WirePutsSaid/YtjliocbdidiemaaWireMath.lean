/-
  Fields with tags, in plain words: how they are laid down, and as cells.
-/
import Derived.Test.YtjliocbdidiemaaVarMath
import Derived.Test.YtjliocbdidiemaaMem
import Derived.Test.YtjliocbdidiemaaRegion
namespace Go.Proofs.Ytjliocbdidiemaa
open Go.RowKit

structure Fld where
  tag : Int
  isB : Bool
  n : Nat
  b : List Nat
namespace wi
def encF (f : Fld) : List Nat := if f.isB then var.vput (8 * f.tag.toNat + 2) ++ (var.vput f.b.length ++ f.b) else var.vput (8 * f.tag.toNat) ++ var.vput f.n
def ok (f : Fld) : Bool := decide (1 ≤ f.tag ∧ f.tag ≤ 100)
def enc (l : List Fld) : List Nat := l.flatMap encF
/-- How fields are laid down, or refused. -/
def put (l : List Fld) : List Nat × Int := if l.all ok then (enc l, 0) else ([], 1)
def Fits (f : Fld) : Prop := var.S64 f.n ∧ (∀ x ∈ f.b, x < 256) ∧ f.b.length ≤ 300
theorem put_bad {l : List Fld} {k : Nat} {f : Fld} (hx : l[k]? = some f) (h : ¬ (1 ≤ f.tag ∧ f.tag ≤ 100)) : put l = ([], 1) := by
  unfold put
  rw [if_neg]
  simp only [Bool.not_eq_true, List.all_eq_false]
  exact ⟨f, List.mem_of_getElem? hx, by simpa [ok] using h⟩
theorem put_ok {l : List Fld} (h : ∀ (k : Nat) (f : Fld), l[k]? = some f → 1 ≤ f.tag ∧ f.tag ≤ 100) : put l = (enc l, 0) := by
  unfold put
  rw [if_pos]
  rw [List.all_eq_true]
  intro f hf
  obtain ⟨k, hk⟩ := List.mem_iff_getElem?.1 hf
  exact decide_eq_true (h k f hk)
theorem enc_succ {l : List Fld} {k : Nat} {f : Fld} (hx : l[k]? = some f) : enc (l.take (k + 1)) = enc (l.take k) ++ encF f := by
  unfold enc
  rw [List.take_add_one, hx, List.flatMap_append]
  simp
theorem encF_bytes {f : Fld} (h : f.isB = true) : encF f = var.vput (8 * f.tag.toNat + 2) ++ (var.vput f.b.length ++ f.b) := by simp [encF, h]
theorem encF_num {f : Fld} (h : f.isB = false) : encF f = var.vput (8 * f.tag.toNat) ++ var.vput f.n := by simp [encF, h]
theorem encF_len {f : Fld} (h : Fits f) (h1 : 1 ≤ f.tag ∧ f.tag ≤ 100) : (encF f).length ≤ 320 := by
  obtain ⟨h2, -, h4⟩ := h
  have a1 := var.vput_len10 (show var.S64 (8 * f.tag.toNat + 2) by unfold var.S64; omega)
  have a2 := var.vput_len10 (show var.S64 (8 * f.tag.toNat) by unfold var.S64; omega)
  have a3 := var.vput_len10 (show var.S64 f.b.length by unfold var.S64; omega)
  have a4 := var.vput_len10 h2
  unfold encF
  split <;> simp only [List.length_append] <;> omega
theorem enc_len : ∀ (l : List Fld), (∀ f ∈ l, Fits f) → (∀ f ∈ l, 1 ≤ f.tag ∧ f.tag ≤ 100) → (enc l).length ≤ 320 * l.length
  | [], _, _ => by simp [enc]
  | f :: l, h, k => by
    have h1 := enc_len l (fun g hg => h g (by simp [hg])) (fun g hg => k g (by simp [hg]))
    have h2 := encF_len (h f (by simp)) (k f (by simp))
    simp only [enc, List.flatMap_cons, List.length_append, List.length_cons] at h1 ⊢
    omega
theorem put_len {l : List Fld} (h : ∀ f ∈ l, Fits f) : (put l).1.length ≤ 320 * l.length := by
  unfold put
  split
  · rename_i hk
    rw [List.all_eq_true] at hk
    exact enc_len l h (fun f hf => by simpa [ok] using hk f hf)
  · simp
theorem enc8F {f : Fld} (h : Fits f) : ∀ x ∈ encF f, x < 256 := by
  intro x hx
  unfold encF at hx
  split at hx <;> simp only [List.mem_append] at hx
  · rcases hx with hx | hx | hx
    · exact var.vput8 _ x hx
    · exact var.vput8 _ x hx
    · exact h.2.1 x hx
  · rcases hx with hx | hx
    · exact var.vput8 _ x hx
    · exact var.vput8 _ x hx
theorem enc8 {l : List Fld} (h : ∀ f ∈ l, Fits f) : ∀ x ∈ enc l, x < 256 := by
  intro x hx
  obtain ⟨f, hf, hx⟩ := List.mem_flatMap.1 hx
  exact enc8F (h f hf) x hx
theorem put8 {l : List Fld} (h : ∀ f ∈ l, Fits f) : ∀ x ∈ (put l).1, x < 256 := by
  unfold put
  split
  · exact enc8 h
  · simp
theorem enc_append (l m : List Fld) : enc (l ++ m) = enc l ++ enc m := by simp [enc]
/-- At most 60 fields, of 300 bytes each. -/
def cut (f : Fld) : Fld := { f with b := f.b.take 300 }
def few (l : List Fld) : List Fld := (l.take 60).map cut
end wi

/-- A field, and where its bytes lie. -/
abbrev FV := Fld × Option Addr × Nat
def cellsF (p : FV) : List Value := [.int .i64 p.1.tag, .bool p.1.isB, .int .u64 (p.1.n : Int), .slice p.2.1 p.1.b.length p.2.2]
def fcs (l : List FV) : List Value := l.flatMap cellsF
theorem fcs_cons (p : FV) (l : List FV) : fcs (p :: l) = .int .i64 p.1.tag :: .bool p.1.isB :: .int .u64 (p.1.n : Int) :: .slice p.2.1 p.1.b.length p.2.2 :: fcs l := rfl
theorem fcs_at : ∀ {l : List FV} {k : Nat} {p : FV}, l[k]? = some p → (fcs l)[k * 4]? = some (.int .i64 p.1.tag) ∧ (fcs l)[k * 4 + 1]? = some (.bool p.1.isB) ∧ (fcs l)[k * 4 + 2]? = some (.int .u64 (p.1.n : Int)) ∧ (fcs l)[k * 4 + 3]? = some (.slice p.2.1 p.1.b.length p.2.2)
  | [], k, p, h => by simp at h
  | q :: l, 0, p, h => by simp at h; subst h; exact ⟨rfl, rfl, rfl, rfl⟩
  | q :: l, k + 1, p, h => by
    rw [fcs_cons, show (k + 1) * 4 = k * 4 + 1 + 1 + 1 + 1 by omega]
    simp only [List.getElem?_cons_succ] at h ⊢
    exact fcs_at h
theorem fcs_len (l : List FV) : (fcs l).length = l.length * 4 := by
  induction l with
  | nil => rfl
  | cons r l ih => rw [fcs_cons]; simp [ih]; omega
theorem fcs_append (l m : List FV) : fcs (l ++ m) = fcs l ++ fcs m := by simp [fcs]
theorem fcs_one {l : List FV} : ∀ u ∈ fcs l, u.oneCell' = true := by
  intro u hu
  simp only [fcs, List.mem_flatMap] at hu
  obtain ⟨r, -, hu⟩ := hu
  simp [cellsF] at hu
  rcases hu with rfl | rfl | rfl | rfl <;> rfl
theorem fcs_succ {l : List FV} {k : Nat} {p : FV} (h : l[k]? = some p) : fcs (l.take (k + 1)) = fcs (l.take k) ++ cellsF p := by
  rw [List.take_add_one, h, fcs_append]
  simp [fcs]
/-- Their bytes lie there, in blocks below B. -/
def Held (w : World) (B : Nat) (l : List FV) : Prop := ∀ p ∈ l, p.1.b.length ≤ p.2.2 ∧ p.2.2 ≤ maxLen ∧ Row w B p.2.1 (u8s p.1.b)
theorem Held.at_ {w : World} {B : Nat} {l : List FV} (h : Held w B l) {k : Nat} {p : FV} (hk : l[k]? = some p) : p.1.b.length ≤ p.2.2 ∧ p.2.2 ≤ maxLen ∧ Row w B p.2.1 (u8s p.1.b) := h p (List.mem_of_getElem? hk)
theorem Held.below {w w' : World} {B C : Nat} {l : List FV} (h : Held w B l) (hb : Below C w w') (hC : B ≤ C) : Held w' B l := fun p hp => ⟨(h p hp).1, (h p hp).2.1, (h p hp).2.2.below hb hC⟩
theorem Held.more {w : World} {B C : Nat} {l : List FV} (h : Held w B l) (hC : B ≤ C) : Held w C l := fun p hp => ⟨(h p hp).1, (h p hp).2.1, (h p hp).2.2.more hC⟩
theorem Held.le {w w' : World} {l : List FV} (h : Held w w.heap.size l) (hb : Le w w') : Held w' w'.heap.size l := (h.below hb (Nat.le_refl _)).more hb.size
theorem Row.le {w w' : World} {A : Option Addr} {xs : List Value} (h : Row w w.heap.size A xs) (hb : Le w w') : Row w' w'.heap.size A xs := (hb.row h (Nat.le_refl _)).more hb.size
def cutV (p : FV) : FV := (wi.cut p.1, p.2)
theorem held_cut {w : World} {B : Nat} {l : List FV} (h : Held w B l) (k : Nat) : Held w B ((l.take k).map cutV) := by
  intro p hp
  obtain ⟨q, hq, rfl⟩ := List.mem_map.1 hp
  obtain ⟨h1, h2, h3⟩ := h q (List.mem_of_mem_take hq)
  refine ⟨?_, h2, ?_⟩
  · simp only [cutV, wi.cut, List.length_take]; omega
  · simp only [cutV, wi.cut]
    have := h3.take 300
    rwa [u8s_take] at this
theorem few_fst (l : List FV) : ((l.take 60).map cutV).map (·.1) = wi.few (l.map (·.1)) := by
  simp only [wi.few, List.map_map, ← List.map_take]
  rfl
end Go.Proofs.Ytjliocbdidiemaa
