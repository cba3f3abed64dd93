/-
  Keys, as a set of the call's own; what is gone.
-/
import Derived.Test.YtjedpjfmlaganaaDoorVwM
import Derived.DeepKeys4
import Derived.Maps.Own
import Derived.Maps.Views
namespace Go.Proofs.YtjedpjfmlaganaaDoor.vw
set_option maxRecDepth 100000
open Go.RowKit
open Go.Maps (Keyed)
set_option linter.unusedVariables false

theorem laidK : laidOutB Tryd.prog = true := by kernel_rfl
theorem wideK : (match Tryd.prog.underlying 33 with | some (.array _ _) | some (.struct _) => true | _ => false) = true := by kernel_rfl
theorem lawK : Keyed Tryd.prog 33 := Keyed.of_law (deep_law_laid laidK (m := 2) (by omega) (of_decide_eq_true (by kernel_rfl)) (by kernel_rfl) wideK)
theorem typeK : Tryd.prog.keyType 33 = true := by kernel_rfl
theorem cellsK : Tryd.prog.cellsOf 33 = 3 := by kernel_rfl
/-- A key that may be held. -/
def KeWf (k : Ke) : Prop := (Lit.int .i64 k.id).wf = true ∧ (Lit.int .i64 k.bk).wf = true ∧ (Lit.int .i64 k.rw).wf = true
def kagg (k : Ke) : Value := .agg #[.int .i64 k.id, .int .i64 k.bk, .int .i64 k.rw]
theorem kagg_inj {a b : Ke} (h : kagg a = kagg b) : a = b := by
  obtain ⟨a1, a2, a3⟩ := a
  obtain ⟨b1, b2, b3⟩ := b
  unfold kagg at h
  simp at h
  simp [h]
theorem key_lit (k : Ke) (h : KeWf k) : ∃ s, keyOf Tryd.prog 33 (kagg k) = some (.string s) := by
  obtain ⟨h1, h2, h3⟩ := h
  have hu := Tryd.underlying33
  obtain ⟨m, hm⟩ : ∃ m, Tryd.prog.types.size = m + 2 := ⟨Tryd.prog.types.size - 2, (Nat.sub_add_cancel (of_decide_eq_true (by kernel_rfl))).symm⟩
  have hi := Tryd.underlying3
  have c1 : Tryd.prog.cellsOf 3 = 1 := by kernel_rfl
  refine ⟨keyBytes [.int .i64 k.id, .int .i64 k.bk, .int .i64 k.rw], ?_⟩
  unfold keyOf kagg
  simp only [hu]
  rw [if_pos (by simp [typeK, Value.formed, hu, cellsK]), hm]
  unfold Program.keyLits
  simp only [hu, Value.cells]
  rw [if_pos ⟨by rw [cellsK]; rfl, by kernel_rfl⟩]
  simp [List.mapM_cons, Program.keyLits, hi, c1, h1, h2, h3]

/-- The keys that are gone, as a map of the call's own. -/
def Del (W : World) (b j : Nat) (L : List Ke) : Prop := ∃ D : DataW Nat, W.ownsMap Tryd.prog 33 (plainElem Tryd.prog 4) b j D ∧ Maps.IsMap D ∧ ∀ k s, keyOf Tryd.prog 33 (kagg k) = some (.string s) → D.atKey (.string s) (.lit (.bool false)) = .lit (.bool (L.any fun y => eqK y k))
theorem Del.on {W W' : World} {b j : Nat} {L : List Ke} (h : Del W b j L) (e : W'.heap[b]? = W.heap[b]?) : Del W' b j L := by
  obtain ⟨D, ⟨es, clock, hb, F, hs, rfl⟩, hD⟩ := h
  exact ⟨_, ⟨es, clock, e.trans hb, F, hs, rfl⟩, hD⟩
theorem Del.lt {W : World} {b j : Nat} {L : List Ke} (h : Del W b j L) : b < W.heap.size := by
  obtain ⟨D, hown, -, -⟩ := h
  exact hown.lt
theorem del_new (w : World) : Del (w.alloc (.map #[] 0)) w.heap.size 0 [] :=
  ⟨_, World.ownsMap_made w _ _ _, Maps.isMap_empty, fun k s _ => rfl⟩
theorem zeroB (w : World) : (zeroValue 4).run Tryd.prog w = .ok (.bool false) w := by kernel_rfl
theorem lit_bool_inv {v : Value} {z : DataW Nat × List MemPlace} (h : plainElem Tryd.prog 4 v = some z) : ∃ b, v = .bool b ∧ z = (.lit (.bool b), []) := by
  unfold plainElem at h
  rw [Tryd.underlying4] at h
  cases v <;> simp at h
  exact ⟨_, rfl, h.symm⟩
set_option maxRecDepth 100000 in
theorem Del.look {W : World} {b j : Nat} {L : List Ke} (h : Del W b j L) {k : Ke} (hk : KeWf k) : (Instr.lookup 63 (.map (some b)) (.agg #[.int .i64 k.id, .int .i64 k.bk, .int .i64 k.rw]) false).run Tryd.prog W = .ok (.bool (L.any fun y => eqK y k)) W := by
  obtain ⟨D, hown, -, hat⟩ := h
  obtain ⟨s, hs⟩ := key_lit k hk
  obtain ⟨v, ps, hrun, hv⟩ := hown.lookup lawK Tryd.underlying63 (zeroB W) (plainElem_bool Tryd.underlying4 false) hs
  obtain ⟨x, rfl, e⟩ := lit_bool_inv hv
  rw [hat k s hs] at e
  simp only [Prod.mk.injEq, DataW.lit.injEq, Lit.bool.injEq] at e
  have := hrun
  unfold kagg at this
  rw [this, e.1]
theorem del_put {D : DataW Nat} {L : List Ke} (hm : Maps.IsMap D) (hat : ∀ k s, keyOf Tryd.prog 33 (kagg k) = some (.string s) → D.atKey (.string s) (.lit (.bool false)) = .lit (.bool (L.any fun y => eqK y k))) (c : Ke) (sc : List UInt8) (hc : keyOf Tryd.prog 33 (kagg c) = some (.string sc)) :
    ∀ k s, keyOf Tryd.prog 33 (kagg k) = some (.string s) → (D.put (.string sc) (.lit (.bool true))).atKey (.string s) (.lit (.bool false)) = .lit (.bool ((L ++ [c]).any fun y => eqK y k)) := by
  intro k s hs
  rw [List.any_append]
  by_cases h : sc = s
  · subst h
    have e : c = k := kagg_inj (lawK.inj hc hs)
    subst e
    rw [Maps.atKey_put_same hm (by simp [WideAt.IsKeyLit])]
    simp [eqK_refl]
  · have hne : c ≠ k := fun e => h (by rw [e] at hc; exact Lit.string.inj (Option.some.inj (hc.symm.trans hs)))
    rw [Maps.atKey_put_other (by intro e; injection e with e; exact h e.symm), hat k s hs]
    have : eqK c k = false := eqK_false.2 hne
    simp [this]
set_option maxRecDepth 100000 in
theorem add_any (W : World) (b j : Nat) (L : List Ke) (k : Ke) (hk : KeWf k) (hj : j < 1000000) (h : Del W b j L) : Calls Tryd.prog 22 #[.map (some b), .agg #[.int .i64 k.id, .int .i64 k.bk, .int .i64 k.rw]] W fun e w' => e = .returned (.tuple #[]) ∧ Del w' b (j + 1) (L ++ [k]) ∧ W.grownBy w' (some b) := by
  obtain ⟨D, hown, hm, hat⟩ := h
  obtain ⟨s, hs⟩ := key_lit k hk
  have HPUT := hide (del_put hm hat k s hs)
  have HM := hide hm
  have HS := hide hs
  obtain ⟨X, hX, bX, hlX⟩ : ∃ X, W.alloc (.cells #[.int .i64 k.id, .int .i64 k.bk, .int .i64 k.rw] 33) = X ∧ Box X W.heap.size (kcell k) 33 ∧ Le W X := ⟨_, rfl, box_new _ _ _, (Below.refl _ _).alloc (Nat.le_refl _) _⟩
  have HX := hide hX
  have HL := hide hlX
  have c0 := bX.cell 0 (.int .i64 k.id) rfl
  have c1 := bX.cell 1 (.int .i64 k.bk) rfl
  have c2 := bX.cell 2 (.int .i64 k.rw) rfl
  have HOWN := hide (show X.ownsMap Tryd.prog 33 (plainElem Tryd.prog 4) b j D by
    obtain ⟨es, clock, hb, F, hz, rfl⟩ := hown
    have hblt : b < W.heap.size := (Array.getElem?_eq_some_iff.1 hb).1
    exact ⟨es, clock, (hlX.block b hblt).trans hb, F, hz, rfl⟩)
  clear hown hm hat hs hX bX hlX
  go_enter Tryd.func22, Tryd.ntmps22
  go_upto_region 1 with fail
  rw [HX.out]
  go_wp2_with (at_mapUpdate; refine wpList_mapUpdate_own _ rfl _ _ _ 63 rfl 33 4 lawK Tryd.underlying63 _ b j D rfl HOWN.out (by unfold maxLen; omega) _ _ (.string s) rfl rfl HS.out (.lit (.bool true)) [] (plainElem_bool Tryd.underlying4 true) ?_; intro w2 hown2 hg2)
  go_end0
  exact ⟨rfl, ⟨_, hown2, HM.out.put _ _, HPUT.out⟩, gb_trans (gb_le HL.out) hg2⟩
#print axioms add_any
end Go.Proofs.YtjedpjfmlaganaaDoor.vw
