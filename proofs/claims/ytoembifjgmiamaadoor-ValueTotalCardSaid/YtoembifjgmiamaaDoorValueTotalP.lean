/-
  The card of ValueTotal: whatever the input, the call returns true, and each argument reads behind the call as it read before; what utf8's tables hold is tied to the program's text.
-/
import Derived.Test.YtoembifjgmiamaaDoorCards
import Derived.Test.YtoembifjgmiamaaDoorTie
import Derived.Test.YtoembifjgmiamaaDoorValE
import Derived.Test.YtoembifjgmiamaaDoorValShape
import Derived.WalkKit
import Derived.ProofKit
import Derived.OpenShut
import Derived.Deep.DeepHandedRow
import Derived.Lib.LaidTab
import Derived.Lib.LaidU8
namespace Go.Proofs.YtoembifjgmiamaaDoor.ValueTotalDone
open Go.ChangeShapes Go.WideShapes Go.ChangeAt Go.RowKit
set_option linter.unusedVariables false

theorem own : ownKnob Tryd.prog.godebug = none := by kernel_rfl
theorem laidOut : laidOutB Tryd.prog = true := by kernel_rfl
theorem table {W : World} (h : laidMetH Tryd.prog Rows.valueTotalRow.laid W) : Has255 W ∧ 0 < W.heap.size := has255 h

set_option maxRecDepth 100000 in
theorem contract (H : Type) (enc : TypeId × Value → H) (W : World) (base : Nat) (args : Array Value) (ds gs : List (DataW H)) (before : List MemPlace)
    (hval : ∀ (j : Nat) t v, Tryd.f4.params[j]? = some t → args[j]? = some v → Value.okWide Tryd.prog W .any base t v)
    (hW : DataW.Whole enc Tryd.prog Tryd.f4.params.toList Rows.valueTotalSpec.vars false W args.toList ds gs before) (hL : laidMetH Tryd.prog Rows.valueTotalRow.laid W) :
    Calls Tryd.prog 4 args W fun e W' => ∃ v, e = .returned v ∧ Rows.valueTotalSpec.post enc Tryd.prog Tryd.f4 false true false false W args v W' := by
  have hW' := hW
  obtain ⟨p, q, hA0, hV, rfl, hfz, hnd⟩ := hW
  have hA : DataW.TrodAll enc Tryd.prog W 0 (fun _ => true) true Tryd.f4.params.toList args.toList ds p := hA0
  have hAll := hA
  rw [Tryd.params4] at hA hval
  obtain ⟨v0, vs0, d0, ds0, p0, q0, hargs, rfl, rfl, h0, r0⟩ := trodAll_cons hA
  obtain ⟨v1, vs1, d1, ds1, p1, q1, rfl, rfl, rfl, h1, r1⟩ := trodAll_cons r0
  obtain ⟨v2, vs2, d2, ds2, p2, q2, rfl, rfl, rfl, h2, r2⟩ := trodAll_cons r1
  obtain ⟨rfl, rfl, rfl⟩ := trodAll_nil r2
  obtain rfl : args = #[v0, v1, v2] := by cases args; simp_all
  obtain ⟨rfl, rfl⟩ := trodVars_none hV
  obtain ⟨cs0, rfl, -⟩ := okWide_struct Tryd.underlying23 (hval 0 23 v0 rfl rfl)
  obtain ⟨x0, e0, w0⟩ := ok_val (ok_of_Trod (.pair 1 .bool (.pair 1 (.int .i64) (.pair 1 .str .unit))) (by kernel_rfl) h0)
  obtain rfl : cs0 = #[.bool x0.nul, .int .i64 x0.n, .string x0.s] := by
    have e : cs0.toList = _ := e0
    rw [← Array.toList_inj, e]
  obtain ⟨cs1, rfl, -⟩ := okWide_struct Tryd.underlying23 (hval 1 23 v1 rfl rfl)
  obtain ⟨x1, e1, w1⟩ := ok_val (ok_of_Trod (.pair 1 .bool (.pair 1 (.int .i64) (.pair 1 .str .unit))) (by kernel_rfl) h1)
  obtain rfl : cs1 = #[.bool x1.nul, .int .i64 x1.n, .string x1.s] := by
    have e : cs1.toList = _ := e1
    rw [← Array.toList_inj, e]
  obtain ⟨cs2, rfl, -⟩ := okWide_struct Tryd.underlying23 (hval 2 23 v2 rfl rfl)
  obtain ⟨x2, e2, w2⟩ := ok_val (ok_of_Trod (.pair 1 .bool (.pair 1 (.int .i64) (.pair 1 .str .unit))) (by kernel_rfl) h2)
  obtain rfl : cs2 = #[.bool x2.nul, .int .i64 x2.n, .string x2.s] := by
    have e : cs2.toList = _ := e2
    rw [← Array.toList_inj, e]
  clear hA0
  obtain ⟨h255, hz⟩ := table hL
  refine (total_walk W x0 x1 x2 w0 h255 hz).mono fun e W' ⟨he, bel⟩ => ?_
  subst he
  exact ⟨_, rfl, _, _, _, [], _, [], hW', trodAll_mk1 (shut_bool Tryd.underlying4 _), belowAll laidOut bel _ _ _ _ (by kernel_rfl) hAll, rfl, bel.frame _, fun h => by cases h⟩

theorem laid_met (os : Os) : laidMet Tryd.prog Rows.valueTotalRow.laid ((laidWorld os).forCall (fun _ _ => 0) ⟨#[], #[.agg #[.bool false, .int .i64 0, .string ⟨#[]⟩], .agg #[.bool false, .int .i64 0, .string ⟨#[]⟩], .agg #[.bool false, .int .i64 0, .string ⟨#[]⟩]], []⟩).memory :=
  laidMet_of_run' 8 (by kernel_rfl) (by kernel_rfl)
theorem reads (os : Os) {H : Type} (enc : TypeId × Value → H) : ∃ places, DataW.whole enc Tryd.prog ((laidWorld os).forCall (fun _ _ => 0) ⟨#[], #[.agg #[.bool false, .int .i64 0, .string ⟨#[]⟩], .agg #[.bool false, .int .i64 0, .string ⟨#[]⟩], .agg #[.bool false, .int .i64 0, .string ⟨#[]⟩]], []⟩).memory Tryd.f4.params.toList Rows.valueTotalSpec.vars false (#[.agg #[.bool false, .int .i64 0, .string ⟨#[]⟩], .agg #[.bool false, .int .i64 0, .string ⟨#[]⟩], .agg #[.bool false, .int .i64 0, .string ⟨#[]⟩]] : Array Value).toList 8 = some ([.agg [.lit (.bool false), .lit (.int .i64 0), .lit (.string [])], .agg [.lit (.bool false), .lit (.int .i64 0), .lit (.string [])], .agg [.lit (.bool false), .lit (.int .i64 0), .lit (.string [])]], [], places) :=
  ⟨[], by kernel_rfl⟩

set_option maxRecDepth 100000 in
theorem lifted (os : Os) (started : os.Started) (H : Type) (enc : TypeId × Value → H) (F : Stop.Interp) :
    ReturnsInHanded {} Tryd.checked os 4 .any ((OpenSpec.ofChange Rows.valueTotalSpec).preRow enc Tryd.prog Tryd.f4 Rows.valueTotalRow.domain false Rows.valueTotalRow.laid) (((OpenSpec.ofChange Rows.valueTotalSpec).at F).post enc Tryd.prog Tryd.f4 false true false false) := by
  obtain ⟨places, hx⟩ := reads os enc
  refine returnsInHanded_of_row (C := Tryd.checked) (s := OpenSpec.ofChange Rows.valueTotalSpec) own started (by kernel_rfl) Tryd.func4
    (witness_row_at (enc := enc) (C := Tryd.checked) false (laidWorld os) #[.agg #[.bool false, .int .i64 0, .string ⟨#[]⟩], .agg #[.bool false, .int .i64 0, .string ⟨#[]⟩], .agg #[.bool false, .int .i64 0, .string ⟨#[]⟩]] rfl (by kernel_rfl) (by kernel_rfl) (by kernel_rfl)
      (OpenSpec.preRow_of_cond 8 hx (by kernel_rfl) (fun k hk => by cases hk) (by kernel_rfl) (laid_met os))) ?_
  intro W base args ds gs before hval hW _ _ _ hL _ _
  exact contract H enc W base args ds gs before hval hW hL

theorem said : Rows.ValueTotalSaid :=
  OpenClaim.holds_of_cond 4 Tryd.f4 rfl rfl rfl rfl rfl rfl rfl ⟨rfl, rfl, rfl, rfl, rfl⟩ rfl rfl rfl rfl rfl (by kernel_rfl) Tryd.func4 (by kernel_rfl)
    (of_decide_eq_true (by kernel_rfl)) (by unfold Func.isWrapper; first | (rw [if_pos (by decide +kernel)]; kernel_rfl) | (rw [if_neg (by decide +kernel)]; exact ⟨rfl, rfl⟩))
    (fun os started H enc _ F => by rw [OpenClaim.pre_eq_preRow]; exact lifted os started H enc F)

theorem plain (f : FuncId) (fn : Func) (hf : Tryd.pinned.checked.prog.funcNamed "pilaster/pilasterlaw12.ValueTotal" = some f) (hfn : Tryd.pinned.checked.prog.funcs[f]? = some fn) :
    false = Tryd.pinned.checked.prog.looks [] ∧ ∀ (j : Nat) t, fn.params[j]? = some t → Tryd.pinned.checked.prog.wantsStandIn t = false := by
  obtain rfl : f = 4 := Option.some.inj ((show Tryd.prog.funcNamed "pilaster/pilasterlaw12.ValueTotal" = some 4 by kernel_rfl).symm.trans hf) |>.symm
  obtain rfl : fn = Tryd.f4 := (Option.some.inj (Tryd.func4.symm.trans hfn)).symm
  refine ⟨by kernel_rfl, fun j t ht => ?_⟩
  rw [Tryd.params4] at ht
  obtain rfl : t = 23 := by simpa using Array.mem_of_getElem? ht
  exact (show Tryd.prog.wantsStandIn 23 = false by kernel_rfl)

theorem proved : Rows.ValueTotalCardSaid :=
  Claim7.holds_tied_plain_at .later [] _ _ _ _ said (fun _ h => by cases h) (by kernel_rfl) (fun _ h => by cases h) valueTotal_row_tie rfl ⟨rfl, rfl⟩ (by kernel_rfl) rfl plain (by kernel_rfl)
#print axioms proved
end Go.Proofs.YtoembifjgmiamaaDoor.ValueTotalDone
