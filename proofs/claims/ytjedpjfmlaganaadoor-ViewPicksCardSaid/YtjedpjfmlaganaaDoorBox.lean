/-
  Words for memory, over any program: boxes (a variable's block, known whole), and handing back a variable's cells.
-/
import Derived.Test.YtjedpjfmlaganaaDoorMem
import Derived.Test.YtjedpjfmlaganaaDoorRegion
import Derived.Deep.MidRow
import Derived.OneCell
namespace Go.Proofs.YtjedpjfmlaganaaDoor
open Go.RowKit

/-- The block b is a variable's, with these cells. -/
def Box (w : World) (b : Nat) (cs : Array Value) (t : TypeId) : Prop := w.heap[b]? = some (.cells cs t (0, 0))
section
variable {w w' : World} {b : Nat} {cs : Array Value} {t : TypeId}
theorem Box.cell (h : Box w b cs t) (i : Nat) (v : Value) (hv : cs[i]? = some v) : w.cell? ⟨b, i, none⟩ = some v := (cell_of_row _ _ _ _ _ _ h).trans hv
theorem Box.lt (h : Box w b cs t) : b < w.heap.size := (Array.getElem?_eq_some_iff.1 h).1
theorem Box.frozen (h : Box w b cs t) (i : Nat) : w.frozen? ⟨b, i, none⟩ = false := by
  have e : w.heap[b]? = some (.cells cs t (0, 0)) := h
  simp [World.frozen?, e]
theorem Box.alloc (h : Box w b cs t) (o : Obj) : Box (w.alloc o) b cs t := (show (w.alloc o).heap[b]? = w.heap[b]? by show (w.heap.push o)[b]? = _; rw [Array.getElem?_push_lt h.lt, Array.getElem?_eq_getElem h.lt]).trans h
theorem Box.drew (h : Box w b cs t) : Box w.drew b cs t := h
theorem Box.drewN (h : Box w b cs t) (q : Nat) : Box (w.drewN q) b cs t := h
theorem Box.other (h : Box w b cs t) {a : Addr} (ha : a.block ≠ b) (u : Value) : Box (w.setCell a u) b cs t := (heap_setCell_other w a b u (fun e => ha e.symm)).trans h
theorem Box.set (h : Box w b cs t) (i : Nat) (u : Value) : Box (w.setCell ⟨b, i, none⟩ u) b (cs.setIfInBounds i u) t := heap_setCell_same w b i cs t u h
theorem Box.grown (h : Box w b cs t) {row : Option Nat} (hg : w.grownBy w' row) (hr : ∀ g, row = some g → b ≠ g) : Box w' b cs t :=
  (hg.block b h.lt (fun e => hr _ e.symm rfl)).trans h
theorem Box.below (h : Box w b cs t) {B : Nat} (hb : Below B w w') (hB : b < B) : Box w' b cs t := (hb.block b hB).trans h
theorem box_new (w : World) (cs : Array Value) (t : TypeId) : Box (w.alloc (.cells cs t)) w.heap.size cs t := heap_alloc_new _ _
end
theorem Box.later {V : World} {b : Nat} {cs : Array Value} {t : TypeId} (h : Box V b cs t) (i : Nat) (v : Value) (hv : cs[i]? = some v) : ∀ W', Le V W' → W'.cell? ⟨b, i, none⟩ = some v := fun _ hl => (h.below hl h.lt).cell i v hv
theorem later_cell {w V : World} {q b o : Nat} {v : Value} (hV : (w.drewN q).drew = V) (hb : b < w.heap.size) (hc : w.cell? ⟨b, o, none⟩ = some v) : ∀ W', Le V W' → W'.cell? ⟨b, o, none⟩ = some v :=
  fun _ h => by subst hV; exact (Below.cell (p := ⟨b, o, none⟩) h (show b < w.heap.size from hb)).trans hc
/-- A variable's cells are handed back. -/
theorem box_results {P : Program} {fn : Func} {p : Tmp} {ty : TypeId} (h : fn.results = #[.cell p ty]) (tmps : Array Value) {w : World} {g : Nat} {t : TypeId} {cs : Array Value} {d : TypeDesc} (hg : Box w g cs t)
    (hp : tmps.getD p undef = .pointer (some ⟨g, 0, none⟩)) (hu : P.underlying ty = some d) (hd : (match d with | .struct _ | .array _ _ => true | _ => false) = true) (hi : (P.info? ty).map (·.size) = some cs.size) :
    (results fn tmps).run P w = .ok (.agg cs) w := results_cell_row h tmps w g t cs (0, 0) d hp hg hu hd hi
theorem own_other {w : World} {base size n : Nat} {e : TypeId} {v : Value} {xs : List Value} (h : w.ownsRow base e size v n xs) {a : Addr} (ha : a.block < base) (u : Value) : (w.setCell a u).ownsRow base e size v n xs := ownsRow_setCell_below h ha u
theorem two_boxes (w : World) (cs ds : Array Value) (t : TypeId) : ∃ W, (w.alloc (.cells cs t)).alloc (.cells ds t) = W ∧ Box W w.heap.size cs t ∧ Box W (w.heap.size + 1) ds t ∧ Below w.heap.size w W ∧ W.heap.size = w.heap.size + 2 :=
  ⟨_, rfl, (box_new _ _ _).alloc _, by have := box_new (w.alloc (.cells cs t)) ds t; simpa using this, ((Below.refl _ _).alloc (Nat.le_refl _) _).alloc (by simp) _, by simp⟩
end Go.Proofs.YtjedpjfmlaganaaDoor
