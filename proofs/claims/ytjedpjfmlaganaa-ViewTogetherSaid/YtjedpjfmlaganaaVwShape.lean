/-
  Keyed rows and deletions that came in, read by their shape, within the form's reach.
-/
import Derived.Test.YtjedpjfmlaganaaShapeZ
import Derived.Test.YtjedpjfmlaganaaVwO
namespace Go.Proofs.Ytjedpjfmlaganaa.vw
open Go.RowKit
set_option linter.unusedVariables false

def zV : Zh := .pair 1 .bool (.pair 1 (.int .i64) (.pair 1 .str .unit))
def zK : Zh := .pair 1 (.int .i64) (.pair 1 (.int .i64) (.pair 1 (.int .i64) .unit))
def zKd : Zh := .pair 3 zK (.pair 1 (.slice 3 32 zV) .unit)
def zGn : Zh := .pair 3 zK (.pair 1 (.int .i64) .unit)
theorem zok_val {w : World} {B : Nat} {cs : List Value} (h : zV.Ok w B cs) : ∃ x : va.Val, cs = [.bool x.nul, .int .i64 x.n, .string x.s] := by
  obtain ⟨c0, r, rfl, h1, h2⟩ := zok_cons h zone_bool
  obtain ⟨c1, r, rfl, h3, h4⟩ := zok_cons h2 zone_int
  obtain ⟨c2, r, rfl, h5, h6⟩ := zok_cons h4 zone_str
  obtain ⟨b, hb⟩ := h1
  obtain ⟨n, hn, wn⟩ := h3
  obtain ⟨s, hs, hz⟩ := h5
  obtain rfl : r = [] := h6
  simp only [List.cons.injEq, and_true] at hb hn hs
  subst hb
  subst hn
  subst hs
  exact ⟨⟨b, n, s⟩, rfl⟩
theorem zok_vals {w : World} {B : Nat} {v : Value} (h : (Zh.slice 3 32 zV).Ok w B [v]) : ∃ A len cap, ∃ l : List va.Val, v = .slice A len cap ∧ l.length = len ∧ len ≤ cap ∧ cap ≤ maxLen ∧ len * 32 ≤ 140737488355328 ∧ Row w B A (vcs l) := by
  obtain ⟨A, len, cap, l, e, hl, hnc, hc, -, hz, -, hr⟩ := zok_slice (fun v : va.Val => [.bool v.nul, .int .i64 v.n, .string v.s]) (fun _ => True) (fun ys hy => by
    obtain ⟨x, rfl⟩ := zok_val hy
    exact ⟨x, trivial, rfl⟩) (fun _ => rfl) h
  exact ⟨A, len, cap, l, e, hl, hnc, hc, Nat.le_trans hz (by decide), hr⟩
theorem zok_key {w : World} {B : Nat} {cs : List Value} (h : zK.Ok w B cs) : ∃ k : Ke, cs = [.int .i64 k.id, .int .i64 k.bk, .int .i64 k.rw] ∧ KeWf k := by
  obtain ⟨c0, r, rfl, h1, h2⟩ := zok_cons h zone_int
  obtain ⟨c1, r, rfl, h3, h4⟩ := zok_cons h2 zone_int
  obtain ⟨c2, r, rfl, h5, h6⟩ := zok_cons h4 zone_int
  obtain ⟨a, ha, wa⟩ := h1
  obtain ⟨b, hb, wb⟩ := h3
  obtain ⟨c, hc, wc⟩ := h5
  obtain rfl : r = [] := h6
  simp only [List.cons.injEq, and_true] at ha hb hc
  subst ha
  subst hb
  subst hc
  exact ⟨⟨a, b, c⟩, rfl, wa, wb, wc⟩
theorem zok_kd {w : World} {B : Nat} {cs : List Value} (h : zKd.Ok w B cs) : ∃ x : Kd, (KHas w B x ∧ KeWf x.k) ∧ cs = [.int .i64 x.k.id, .int .i64 x.k.bk, .int .i64 x.k.rw, .slice x.A x.n x.c] := by
  obtain ⟨h0, h1⟩ := h
  obtain ⟨k, hk, wk⟩ := zok_key h0
  obtain ⟨c, r, er, h2, h3⟩ := zok_cons h1 zone_slice
  obtain rfl : r = [] := h3
  obtain ⟨A, len, cap, l, rfl, hl, hnc, hc, hz, hr⟩ := zok_vals h2
  refine ⟨⟨k, A, len, cap, l⟩, ⟨⟨hl, hz, hr⟩, wk⟩, ?_⟩
  have e := List.take_append_drop 3 cs
  rw [hk, er] at e
  exact e.symm
theorem zok_gn {w : World} {B : Nat} {cs : List Value} (h : zGn.Ok w B cs) : ∃ x : Gn, KeWf x.k ∧ cs = [.int .i64 x.k.id, .int .i64 x.k.bk, .int .i64 x.k.rw, .int .i64 x.who] := by
  obtain ⟨h0, h1⟩ := h
  obtain ⟨k, hk, wk⟩ := zok_key h0
  obtain ⟨c, r, er, h2, h3⟩ := zok_cons h1 zone_int
  obtain rfl : r = [] := h3
  obtain ⟨a, ha, wa⟩ := h2
  simp only [List.cons.injEq, and_true] at ha
  subst ha
  refine ⟨⟨k, a⟩, wk, ?_⟩
  have e := List.take_append_drop 3 cs
  rw [hk, er] at e
  exact e.symm
theorem zok_kds {w : World} {B : Nat} {v : Value} (h : (Zh.slice 4 48 zKd).Ok w B [v]) : ∃ A len cap, ∃ l : List Kd, v = .slice A len cap ∧ l.length = len ∧ len ≤ cap ∧ cap ≤ maxLen ∧ (∀ x ∈ l, KHas w B x ∧ KeWf x.k) ∧ Row w B A (kcs l) := by
  obtain ⟨A, len, cap, l, e, hl, hnc, hc, -, -, hp, hr⟩ := zok_slice (fun x : Kd => [.int .i64 x.k.id, .int .i64 x.k.bk, .int .i64 x.k.rw, .slice x.A x.n x.c]) (fun x => KHas w B x ∧ KeWf x.k) (fun ys hy => zok_kd hy) (fun _ => rfl) h
  exact ⟨A, len, cap, l, e, hl, hnc, hc, hp, hr⟩
theorem zok_gns {w : World} {B : Nat} {v : Value} (h : (Zh.slice 4 32 zGn).Ok w B [v]) : ∃ A len cap, ∃ l : List Gn, v = .slice A len cap ∧ l.length = len ∧ len ≤ cap ∧ cap ≤ maxLen ∧ (∀ x ∈ l, KeWf x.k) ∧ Row w B A (gcs l) := by
  obtain ⟨A, len, cap, l, e, hl, hnc, hc, -, -, hp, hr⟩ := zok_slice (fun x : Gn => [.int .i64 x.k.id, .int .i64 x.k.bk, .int .i64 x.k.rw, .int .i64 x.who]) (fun x => KeWf x.k) (fun ys hy => zok_gn hy) (fun _ => rfl) h
  exact ⟨A, len, cap, l, e, hl, hnc, hc, hp, hr⟩
end Go.Proofs.Ytjedpjfmlaganaa.vw
