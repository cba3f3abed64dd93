/-
  Predicates turned, in plain words (written by mk_vwx.py).
-/
import Derived.Test.YtjedpjfmlaganaaDoorPrE
namespace Go.Proofs.YtjedpjfmlaganaaDoor
set_option maxRecDepth 100000
open Go.RowKit
set_option linter.unusedVariables false

theorem has_nil {w : World} {B : Nat} {op col : Int} {v : va.Val} (hv : v.s.size ≤ 9223372036854775807) : Has w B ⟨op, col, v, none, 0, 0, [], none, 0, 0, []⟩ :=
  ⟨rfl, by simp, fun h => absurd rfl h, rfl, by simp, fun h => absurd rfl h, hv, fun v h => (by cases h), by simp⟩

theorem ncs_take : ∀ (l : List pr.Nd) (k : Nat), ncs (l.take k) = (ncs l).take (k * 7)
  | [], k => by simp [ncs]
  | c :: l, 0 => by simp [ncs]
  | c :: l, k + 1 => by
    rw [List.take_succ_cons, ncs_cons, ncs_cons, ncs_take l k, show (k + 1) * 7 = k * 7 + 1 + 1 + 1 + 1 + 1 + 1 + 1 by omega]
    rfl
/-- Nodes that came in, or the first of them. -/
theorem row_zero {l : List va.Col} {r : List va.Val} (h : va.rowV l r = 0) : l.length = r.length := by
  unfold va.rowV at h
  split at h
  · rename_i h1; exact h1.1
  · cases h

def nx (op : Int) (b : Nat) (L : List Int) : pr.Nd := ⟨op, 0, ⟨false, 0, ⟨#[]⟩⟩, none, 0, 0, [], some ⟨b, 0, none⟩, L.length, L.length, L⟩
def ndTrue : pr.Nd := ⟨9, 0, ⟨false, 0, ⟨#[]⟩⟩, none, 0, 0, [], none, 0, 0, []⟩
theorem ncs_append (l m : List pr.Nd) : ncs (l ++ m) = ncs l ++ ncs m := by simp [ncs]
theorem ncs_len : ∀ l : List pr.Nd, (ncs l).length = l.length * 7
  | [] => rfl
  | n :: l => by rw [ncs_cons]; simp only [List.length_cons, ncs_len l]; omega
theorem ncs_one (l : List pr.Nd) : ∀ u ∈ ncs l, u.oneCell' = true := by
  intro u hu
  simp only [ncs, List.mem_flatMap] at hu
  obtain ⟨n, -, hu⟩ := hu
  have h := nd_one n
  rw [← Array.all_toList, List.all_eq_true] at h
  exact h u hu
theorem infoP : (Tryd.prog.info? 45).map (fun i => (i.zero, i.size, i.bytes)) = some (some (.agg #[.int .i64 0, .int .i64 0, .bool false, .int .i64 0, .string ⟨#[]⟩, .slice none 0 0, .slice none 0 0]), 7, 96) := by kernel_rfl
theorem Row.keptIn {w w' : World} {B b o : Nat} {xs : List Value} {row : Option Nat} (h : Row w B (some ⟨b, o, none⟩) xs) (hg : w.grownBy w' row) (hne : some b ≠ row) : Row w' B (some ⟨b, o, none⟩) xs := fun hn => by
  obtain ⟨b', o', e, hb, hc⟩ := h hn
  simp only [Option.some.injEq, Addr.mk.injEq, and_true] at e
  obtain ⟨rfl, rfl⟩ := e
  exact ⟨b, o, rfl, hb, fun j u hu => hg.cell (hc j u hu) hne⟩

theorem lay2 (w : World) (cs ds : Array Value) (t u : TypeId) : ∃ Y, (w.alloc (.cells cs t)).alloc (.cells ds u) = Y ∧ Y.heap.size = w.heap.size + 2 ∧ Le w Y ∧ Row Y Y.heap.size (some ⟨w.heap.size, 0, none⟩) cs.toList ∧ Row Y Y.heap.size (some ⟨w.heap.size + 1, 0, none⟩) ds.toList := by
  have e : (w.alloc (.cells cs t)).heap.size = w.heap.size + 1 := by simp
  have h := row_new (w.alloc (.cells cs t)) ds u (0, 0)
  rw [e] at h
  exact ⟨_, rfl, by simp, ((Below.refl _ _).alloc (Nat.le_refl _) _).alloc (by simp) _, ((row_new w cs t (0, 0)).alloc (by simp) _).more (by simp), h.more (by simp)⟩
theorem lay3 (w : World) (cs ds es : Array Value) (t u v : TypeId) : ∃ Y, ((w.alloc (.cells cs t)).alloc (.cells ds u)).alloc (.cells es v) = Y ∧ Y.heap.size = w.heap.size + 3 ∧ Le w Y ∧ Row Y Y.heap.size (some ⟨w.heap.size, 0, none⟩) cs.toList ∧ Row Y Y.heap.size (some ⟨w.heap.size + 1, 0, none⟩) ds.toList ∧ Row Y Y.heap.size (some ⟨w.heap.size + 1 + 1, 0, none⟩) es.toList := by
  obtain ⟨Y, hY, hz, hL, h1, h2⟩ := lay2 w cs ds t u
  have h := row_new Y es v (0, 0)
  rw [hz] at h
  rw [hY]
  exact ⟨_, rfl, by simp [hz], hL.alloc hL.size _, (h1.alloc (Nat.le_refl _) _).more (by simp), (h2.alloc (Nat.le_refl _) _).more (by simp), h.more (by simp [hz])⟩
theorem go_append (r : List va.Val) : ∀ (l m : List pr.Nd) (out : List Int), pr.evalGo r out (l ++ m) = pr.evalGo r (pr.evalGo r out l) m
  | [], m, out => rfl
  | n :: l, m, out => by simp only [List.cons_append, pr.evalGo]; exact go_append r l m _
theorem at_end (o : List Int) (x : Int) (T : Nat) (h : o.length = T + 1) : pr.at' (o ++ [x]) ((T : Int) + 1) = x := by
  unfold pr.at'
  rw [show ((T : Int) + 1).toNat = T + 1 by omega, List.getD_eq_getElem?_getD, List.getElem?_append_right (by omega), h]
  simp
theorem at_left (o m : List Int) (T : Nat) (h : T < o.length) : pr.at' (o ++ m) (T : Int) = pr.at' o (T : Int) := by
  unfold pr.at'
  rw [show ((T : Int)).toNat = T by omega, List.getD_eq_getElem?_getD, List.getD_eq_getElem?_getD, List.getElem?_append_left h]
/-- What comes of nodes with one more, or two. -/
theorem eval_one {r : List va.Val} {l : List pr.Nd} {T : Nat} (hl : l.length = T + 1) (n : pr.Nd) : pr.evalV (l ++ [n]) r = pr.nodeV r (pr.evalGo r [] l) n := by
  unfold pr.evalV
  rw [go_append]
  simp only [pr.evalGo, List.length_append, List.length_singleton]
  have hlen : (pr.evalGo r [] l).length = T + 1 := by rw [pr.evalGo_length]; simp [hl]
  rw [show (((l.length + 1 : Nat) : Int) - 1) = (T : Int) + 1 by omega]
  exact at_end _ _ T hlen
theorem eval_two {r : List va.Val} {l : List pr.Nd} {T : Nat} (hl : l.length = T + 1) (n m : pr.Nd) : pr.evalV (l ++ [n, m]) r = pr.nodeV r (pr.evalGo r [] l ++ [pr.nodeV r (pr.evalGo r [] l) n]) m := by
  have e : l ++ [n, m] = (l ++ [n]) ++ [m] := by simp
  rw [e, eval_one (T := T + 1) (by simp [hl]), go_append]
  rfl
theorem eval_top {r : List va.Val} {l : List pr.Nd} {T : Nat} (hl : l.length = T + 1) : pr.evalV l r = pr.at' (pr.evalGo r [] l) (T : Int) := by
  unfold pr.evalV
  rw [show ((l.length : Int) - 1) = (T : Int) by omega]
theorem turned {r : List va.Val} {l : List pr.Nd} {T : Nat} (hl : l.length = T + 1) (x : Int) (hx : pr.evalV l r = x) (b c : Nat) : (0 ≤ x ∧ x ≤ 2) ∧
    pr.evalV (l ++ [nx 3 b [(T : Int)]]) r = 2 - x ∧ pr.evalV (l ++ [nx 1 b [(T : Int), (T : Int)]]) r = x ∧ pr.evalV (l ++ [nx 2 b [(T : Int), (T : Int)]]) r = x ∧
    pr.evalV (l ++ [ndTrue, nx 1 b [(T : Int), (T : Int) + 1]]) r = x ∧ pr.evalV (l ++ [nx 3 b [(T : Int)], nx 2 c [(T : Int), (T : Int) + 1]]) r = max x (2 - x) := by
  have ht := eval_top (r := r) hl
  rw [hx] at ht
  have h3 : pr.Three (pr.evalGo r [] l) := pr.evalGo_three r l [] (by intro y hy; cases hy)
  have hlen : (pr.evalGo r [] l).length = T + 1 := by rw [pr.evalGo_length]; simp [hl]
  have hx3 : 0 ≤ x ∧ x ≤ 2 := by rw [ht]; exact pr.at_three h3 _
  have n3 : pr.nodeV r (pr.evalGo r [] l) (nx 3 b [(T : Int)]) = 2 - x := by rw [ht]; rfl
  have n9 : pr.nodeV r (pr.evalGo r [] l) ndTrue = 2 := by rfl
  refine ⟨hx3, ?_, ?_, ?_, ?_, ?_⟩
  · rw [eval_one hl, n3]
  · rw [eval_one hl]
    show min (min 2 (pr.at' (pr.evalGo r [] l) (T : Int))) (pr.at' (pr.evalGo r [] l) (T : Int)) = x
    rw [← ht]; omega
  · rw [eval_one hl]
    show max (max 0 (pr.at' (pr.evalGo r [] l) (T : Int))) (pr.at' (pr.evalGo r [] l) (T : Int)) = x
    rw [← ht]; omega
  · rw [eval_two hl, n9]
    show min (min 2 (pr.at' (pr.evalGo r [] l ++ [2]) (T : Int))) (pr.at' (pr.evalGo r [] l ++ [2]) ((T : Int) + 1)) = x
    rw [at_end _ _ T hlen, at_left _ _ T (by omega), ← ht]; omega
  · rw [eval_two hl, n3]
    show max (max 0 (pr.at' (pr.evalGo r [] l ++ [2 - x]) (T : Int))) (pr.at' (pr.evalGo r [] l ++ [2 - x]) ((T : Int) + 1)) = max x (2 - x)
    rw [at_end _ _ T hlen, at_left _ _ T (by omega), ← ht]; omega
theorem fine_nx {m i : Nat} {op : Int} {b : Nat} {L : List Int} (hop : op = 1 ∨ op = 2 ∨ (op = 3 ∧ L.length ≤ 1)) (h1 : 1 ≤ L.length) (hL : ∀ k ∈ L, 0 ≤ k ∧ k < i) : pr.Fine m i (nx op b L) := by
  refine ⟨fun _ => ⟨h1, fun h3 => ?_, hL⟩, fun h => ?_⟩
  · have h3' : op = 3 := h3
    show L.length ≤ 1
    omega
  · unfold pr.isN nx at h
    simp at h
    omega
theorem fine_true {m i : Nat} : pr.Fine m i ndTrue := ⟨fun h => (by cases h), fun _ => ⟨by decide, by decide, fun h => absurd rfl h⟩⟩
theorem fine_more {m : Nat} {l e : List pr.Nd} (hf : ∀ j n, l[j]? = some n → pr.Fine m j n) (he : ∀ j n, e[j]? = some n → pr.Fine m (l.length + j) n) : ∀ j n, (l ++ e)[j]? = some n → pr.Fine m j n := by
  intro j n hn
  by_cases hj : j < l.length
  · rw [List.getElem?_append_left hj] at hn
    exact hf j n hn
  · rw [List.getElem?_append_right (by omega)] at hn
    have := he _ n hn
    rwa [show l.length + (j - l.length) = j by omega] at this
theorem has_nx {w : World} {B : Nat} {op : Int} {b : Nat} {L : List Int} (hL : L.length ≤ 9223372036854775807) (hr : Row w B (some ⟨b, 0, none⟩) (L.map (Value.int .i64))) : Has w B (nx op b L) :=
  ⟨rfl, by simp [nx], fun h => absurd rfl h, rfl, hL, hr, Nat.zero_le _, fun v h => (by cases h), Nat.le_refl _⟩
theorem has_true {w : World} {B : Nat} : Has w B ndTrue := has_nil (Nat.zero_le _)

end Go.Proofs.YtjedpjfmlaganaaDoor
