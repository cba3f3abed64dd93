/-
  What may come out of nodes, in plain words; rows of outcomes.
-/
import Derived.Test.YtklgmojojgoaeaaDoorOuA
namespace Go.Proofs.YtklgmojojgoaeaaDoor.ou
open Go va pr
set_option linter.unusedVariables false
def at3 (l : List T3) (k : Int) : T3 := l.getD k.toNat zero
def foldO (op : Int) (out : List T3) (L : List Int) (x : T3) : T3 := L.foldl (fun x k => joinV op x (at3 out k)) x
def nodeO (ks : Nd → T3) (out : List T3) (n : Nd) : T3 :=
  if isN n.op then foldO n.op out (n.L.drop 1) (if n.op = 3 then notV (at3 out (n.L.getD 0 0)) else at3 out (n.L.getD 0 0)) else ks n
def outGo (ks : Nd → T3) : List T3 → List Nd → List T3
  | out, [] => out
  | out, n :: l => outGo ks (out ++ [nodeO ks out n]) l
/-- What may come out of a predicate. -/
def outV (ks : Nd → T3) (l : List Nd) : T3 := at3 (outGo ks [] l) ((l.length : Int) - 1)
theorem foldO_step {op : Int} {out : List T3} {L : List Int} {k : Nat} {y : Int} (h : L[k]? = some y) (x : T3) : foldO op out (L.drop k) x = foldO op out (L.drop (k + 1)) (joinV op x (at3 out y)) := by
  rw [va.drop_step h]; rfl
theorem out_step {ks : Nd → T3} {out : List T3} {l : List Nd} {i : Nat} {n : Nd} (h : l[i]? = some n) : outGo ks out (l.drop i) = outGo ks (out ++ [nodeO ks out n]) (l.drop (i + 1)) := by
  rw [drop_step h]; rfl
theorem node_leaf {ks : Nd → T3} {out : List T3} {n : Nd} (h : isN n.op = false) : nodeO ks out n = ks n := by
  unfold nodeO; rw [h]; rfl
theorem node_names {ks : Nd → T3} {out : List T3} {n : Nd} {k0 : Int} {t : List Int} (h : isN n.op = true) (hL : n.L = k0 :: t) : nodeO ks out n = foldO n.op out (n.L.drop 1) (if n.op = 3 then notV (at3 out k0) else at3 out k0) := by
  unfold nodeO; rw [h, hL]; rfl
theorem at3_at {out : List T3} {a : Nat} {z : T3} (h : out[a]? = some z) : at3 out (a : Int) = z := by
  unfold at3
  rw [show ((a : Int)).toNat = a by omega, List.getD_eq_getElem?_getD, h]; rfl
end Go.Proofs.YtklgmojojgoaeaaDoor.ou
namespace Go.Proofs.YtklgmojojgoaeaaDoor
open Go.RowKit
set_option linter.unusedVariables false

/-- Outcomes, as cells. -/
def tcs (l : List ou.T3) : List Value := l.flatMap fun x => [.bool x.a, .bool x.b, .bool x.c]
theorem tcs_cons (x : ou.T3) (l : List ou.T3) : tcs (x :: l) = .bool x.a :: .bool x.b :: .bool x.c :: tcs l := rfl
theorem tcs_snoc (l : List ou.T3) (x : ou.T3) : tcs (l ++ [x]) = tcs l ++ [.bool x.a, .bool x.b, .bool x.c] := by simp [tcs]
theorem tcs_len (l : List ou.T3) : (tcs l).length = l.length * 3 := by
  induction l with
  | nil => rfl
  | cons a l ih => rw [tcs_cons, List.length_cons, List.length_cons, List.length_cons, ih, List.length_cons]; omega
theorem tcs_at : ∀ {l : List ou.T3} {k : Nat} {x : ou.T3}, l[k]? = some x → (tcs l)[k * 3]? = some (.bool x.a) ∧ (tcs l)[k * 3 + 1]? = some (.bool x.b) ∧ (tcs l)[k * 3 + 2]? = some (.bool x.c)
  | [], k, v, h => by simp at h
  | u :: l, 0, v, h => by simp at h; subst h; exact ⟨rfl, rfl, rfl⟩
  | u :: l, k + 1, v, h => by
    rw [tcs_cons, show (k + 1) * 3 = k * 3 + 1 + 1 + 1 by omega]
    simp only [List.getElem?_cons_succ] at h ⊢
    exact tcs_at h
theorem row_t3 {w : World} {B : Nat} {A : Option Addr} {l : List ou.T3} {k : Nat} {x : ou.T3} (hr : Row w B A (tcs l)) (hk : l[k]? = some x) : ∃ b o, A = some ⟨b, o, none⟩ ∧ b < B ∧ w.cell? ⟨b, o + k * 3, none⟩ = some (.bool x.a) ∧ w.cell? ⟨b, o + k * 3 + 1, none⟩ = some (.bool x.b) ∧ w.cell? ⟨b, o + k * 3 + 2, none⟩ = some (.bool x.c) := by
  obtain ⟨h0, h1, h2⟩ := tcs_at hk
  obtain ⟨b, o, rfl, hb, c0⟩ := hr.at_ h0
  obtain ⟨b', o', e, -, c1⟩ := hr.at_ h1
  injection e with e
  injection e with e1 e2 e3
  subst e1
  subst e2
  obtain ⟨b', o', e, -, c2⟩ := hr.at_ h2
  injection e with e
  injection e with e1 e2 e4
  subst e1
  subst e2
  exact ⟨b, o, rfl, hb, c0, c1, c2⟩
theorem infoO : (Tryd.prog.info? 65).map (fun i => (i.zero, i.size, i.bytes)) = some (some (.agg #[.bool false, .bool false, .bool false]), 3, 3) := by kernel_rfl
theorem one_t3 (x : ou.T3) : ∀ u ∈ [Value.bool x.a, Value.bool x.b, Value.bool x.c], u.oneCell' = true := by
  intro u hu
  simp only [List.mem_cons, List.not_mem_nil, or_false] at hu
  rcases hu with rfl | rfl | rfl <;> rfl
end Go.Proofs.YtklgmojojgoaeaaDoor
