/-
  A value taken from bytes, walked: by the program.
-/
import Derived.Test.YtjliocbdidiemaaDoorQR
import Derived.Test.YtjliocbdidiemaaDoorRegionG
namespace Go.Proofs.YtjliocbdidiemaaDoor
open Go.RowKit
set_option linter.unusedVariables false

/-- A variable's cells are handed back, and a value. -/
theorem box_results1 {P : Program} {fn : Func} {p u : Tmp} {ty : TypeId} (h : fn.results = #[.cell p ty, .tmp u]) (tmps : Array Value) {w : World} {g : Nat} {t : TypeId} {cs : Array Value} {d : TypeDesc} (hg : Box w g cs t)
    (hp : tmps.getD p undef = .pointer (some ⟨g, 0, none⟩)) (hu : P.underlying ty = some d) (hd : (match d with | .struct _ | .array _ _ => true | _ => false) = true) (hi : (P.info? ty).map (·.size) = some cs.size) :
    (results fn tmps).run P w = .ok (.tuple #[.agg cs, tmps.getD u undef]) w := by
  have hp' : tmps[p]?.getD undef = .pointer (some ⟨g, 0, none⟩) := by simpa using hp
  simp only [results, h]
  simp [Result.andThen, hp', asAddr, run_loadVar_row w g t ty cs (0, 0) d hg hu hd hi]
def zeroV : va.Val := ⟨false, 0, ⟨#[]⟩⟩
def tvV : Option va.Val → va.Val
  | some v => v
  | none => zeroV
def tkE' {α : Type} : Option α → Int
  | some _ => 0
  | none => 2
def vcell (v : va.Val) : Array Value := #[.bool v.nul, .int .i64 v.n, .string v.s]
theorem val_one (v : va.Val) : (vcell v).all (·.oneCell') = true := by simp [vcell, Value.oneCell']
/-- What TakeValue hands back. -/
def TvR (l : List Nat) (w : World) (e : Ending) (w' : World) : Prop := e = .returned (.tuple #[.agg (vcell (tvV (tv l))), .int .i64 (tkE' (tv l))]) ∧ Le w w'
theorem fv3 {o : List FV} {K : Nat} (hK : o.length = K) {f g k : Fld} (h : o.map (·.1) = [f, g, k]) : ∃ p0 p1 p2 : FV, o = [p0, p1, p2] ∧ p0.1 = f ∧ p1.1 = g ∧ p2.1 = k ∧ K = 3 := by
  match o, h with
  | [p0, p1, p2], h =>
    simp only [List.map_cons, List.map_nil, List.cons.injEq, and_true] at h
    exact ⟨p0, p1, p2, rfl, h.1, h.2.1, h.2.2, hK.symm⟩
theorem gt1 (n : Nat) : decide ((1 : Int) < (n : Int)) = !decide (n ≤ 1) := by
  rw [Bool.eq_iff_iff]; simp; omega

set_option maxRecDepth 100000 in
set_option maxHeartbeats 4000000 in
theorem takevalue_any (w : World) (A : Option Addr) (n c : Nat) (l : List Nat) (hl : l.length = n) (hn : n ≤ 2000) (hnc : n ≤ c) (hc : c ≤ maxLen) (h8 : ∀ x ∈ l, x < 256) (hr : Row w w.heap.size A (u8s l)) :
    Calls Tryd.prog 8 #[.slice A n c] w (TvR l w) := by
  obtain ⟨W0, hW0⟩ : ∃ W0, w.alloc (.cells #[.bool false, .int .i64 0, .string ⟨#[]⟩] 32) = W0 := ⟨_, rfl⟩
  have BX := hide (show Box W0 w.heap.size #[.bool false, .int .i64 0, .string ⟨#[]⟩] 32 by rw [← hW0]; exact box_new _ _ _)
  have HLW := hide (show Le w W0 by rw [← hW0]; exact (Below.refl _ _).alloc (Nat.le_refl _) _)
  have hsh := hide (shaped_any W0 A n c l ⟨#[110, 110, 98]⟩ [false, false, true] hl (by omega) hnc hc h8 (hr.le HLW.out) pat3 (by simp))
  have HW0 := hide hW0
  have H8 := hide h8
  have HL := hide hl
  clear hW0 hr h8 hl
  go_enter Tryd.func8, Tryd.ntmps8
  go_upto_region 1 with fail
  rw [HW0.out]
  go_wp2_with fail
  refine hsh.out.mono ?_
  rintro e w1 h
  rcases h with ⟨h1, rfl, hb⟩ | ⟨o, A1, K, c1, h1, hK, hs, rfl, hr1, hh1, h81, hb⟩
  · have hnone : tv l = none := by
      rcases h1 with h1 | ⟨fs, h1, h2⟩
      · exact tv_none h1
      · exact tv_shape h1 h2
    have BX1 := hide (BX.out.below hb BX.out.lt)
    have HB := hide (HLW.out.trans hb)
    clear h1 hb
    go_wp2_with (refine wpList_store_row rfl 32 _ _ rfl w.heap.size (vcell zeroV) rfl rfl 32 _ BX1.out (by kernel_rfl) rfl (val_one zeroV) ?_)
    refine bodyPost_ret (box_results1 rfl _ (setRow_heap _ _ _ _ _ _ BX1.out) rfl Tryd.underlying32 rfl rfl) rfl ?_
    exact ⟨by rw [hnone]; rfl, below_setRow HB.out (Nat.le_refl _) _⟩
  · obtain ⟨f, g, k, hfgk, -, -, -⟩ := wi.shp3 hs
    rw [hfgk] at h1 hs
    obtain ⟨⟨f', fA, fc⟩, ⟨g', gA, gc⟩, ⟨k', kA, kc⟩, rfl, e0, e1, e2, rfl⟩ := fv3 hK hfgk
    simp only at e0 e1 e2
    subst e0
    subst e1
    subst e2
    have hsame := tv_same (by rw [HL.out]; exact hn) H8.out h1 hs
    have htv := tv_some h1 hs
    obtain ⟨bF, oF, rfl, hbF, D0⟩ := hr1.at_ (j := 2) rfl
    obtain ⟨b', o', e', -, D1⟩ := hr1.at_ (j := 6) rfl
    simp only [Option.some.injEq, Addr.mk.injEq, and_true] at e'
    obtain ⟨rfl, rfl⟩ := e'
    obtain ⟨b', o', e', -, D2⟩ := hr1.at_ (j := 11) rfl
    simp only [Option.some.injEq, Addr.mk.injEq, and_true] at e'
    obtain ⟨rfl, rfl⟩ := e'
    have hrk : Row w1 w1.heap.size kA (u8s k'.b) := (hh1 (k', kA, kc) (by simp)).2.2
    have BX1 := hide (BX.out.below hb BX.out.lt)
    have HB := hide (HLW.out.trans hb)
    obtain ⟨-, hs0, hs1, hk8, hkl⟩ := hsame
    have H64 := hide hs1
    have hcv := hide (fun (W : World) (hW : Le w1 W) => conv8 W w1.heap.size kA k'.b.length kc k'.b rfl hk8 (hW.row hrk (Nat.le_refl _)))
    obtain ⟨n0, hn0⟩ : ∃ x, f'.n = x := ⟨_, rfl⟩
    obtain ⟨n1, hn1⟩ : ∃ x, g'.n = x := ⟨_, rfl⟩
    obtain ⟨kl, hkl'⟩ : ∃ x, k'.b.length = x := ⟨_, rfl⟩
    rw [hn0, hn1] at htv
    rw [hn1] at H64
    rw [hkl'] at hcv
    have d0 : w1.cell? ⟨bF, oF + 2, none⟩ = some (.int .u64 (n0 : Int)) := by rw [D0, hn0]
    have d1 : w1.cell? ⟨bF, oF + 4 + 2, none⟩ = some (.int .u64 (n1 : Int)) := by rw [Nat.add_assoc, D1, hn1]
    have d2 : w1.cell? ⟨bF, oF + 8 + 3, none⟩ = some (.slice kA kl kc) := by rw [Nat.add_assoc, D2, hkl']
    obtain ⟨S, hS⟩ : ∃ S, str k'.b = S := ⟨_, rfl⟩
    rw [hS] at htv hcv
    clear D0 D1 D2 h1 hK hs hr1 hh1 h81 hb hfgk hrk hs0 hk8 hkl hn0 hn1 hkl' hS hs1
    have hg := gt1 n0
    by_cases hn1' : n0 ≤ 1
    · rw [if_pos hn1'] at htv
      rw [decide_eq_true hn1', Bool.not_true] at hg
      go_upto_region 4 with fail
      obtain ⟨V, hV⟩ : ∃ V, w1.drew = V := ⟨_, rfl⟩
      have HLV := hide (show Le w1 V by rw [← hV]; exact (Le.refl _).drew)
      have BV := hide (show Box V w.heap.size _ _ by rw [← hV]; exact BX1.out.drew)
      have HV := hide hV
      clear hV
      have g0 : ∀ W, Le V W → W.cell? ⟨bF, oF + 2, none⟩ = some (.int .u64 (n0 : Int)) := fun W h => ((HLV.out.trans h).cell (p := ⟨bF, oF + 2, none⟩) hbF).trans d0
      have g1 : ∀ W, Le V W → W.cell? ⟨bF, oF + 4 + 2, none⟩ = some (.int .u64 (n1 : Int)) := fun W h => ((HLV.out.trans h).cell (p := ⟨bF, oF + 4 + 2, none⟩) hbF).trans d1
      have g2 : ∀ W, Le V W → W.cell? ⟨bF, oF + 8 + 3, none⟩ = some (.slice kA kl kc) := fun W h => ((HLV.out.trans h).cell (p := ⟨bF, oF + 8 + 3, none⟩) hbF).trans d2
      have g3 : ∀ W, Le V W → (convert 22 9 (.slice kA kl kc)).run Tryd.prog W = .ok (.string S) W := fun W h => hcv.out W (HLV.out.trans h)
      obtain ⟨q, hq⟩ : ∃ q, decide (n0 = 1) = q := ⟨_, rfl⟩
      have hq1 : ((n0 : Int) == 1) = q := by
        rw [← hq, Bool.eq_iff_iff]; simp; omega
      rw [hq] at htv
      clear d0 d1 d2 hcv hq
      refine region_pig (Le V) 16 [(0, 1), (1, 1), (2, 1), (3, 0), (4, 1), (5, 1), (6, 1), (7, 1), (8, 0), (10, 1), (11, 1), (12, 1), (13, 0), (14, 0), (9, 2), (15, 1), (16, 3), (17, 1)] (by kernel_rfl) (by kernel_rfl) (by rw [HV.out]; exact Le.refl _) ?_
      simp only [opsPiG, List.filterMap_cons, List.filterMap_nil, List.getElem?_toArray, List.getElem?_cons_zero, List.getElem?_cons_succ, Option.map_some]
      rw [HV.out]
      repeat (first | (refine pig_any (v := _) rfl (fun W' => by go_simp <;> exact rfl) ?_; simp only [Act.put, List.setIfInBounds_toArray, List.set_cons_zero, List.set_cons_succ]) | (refine pig_take (v := _) rfl (fun W' hW' => by go_simp <;> exact rfl) ?_; simp only [Act.put, List.setIfInBounds_toArray, List.set_cons_zero, List.set_cons_succ]))
      clear g0 g1 g2 g3
      refine pig_run ?_
      go_wp2_with fail
      refine (zag_any V n1 H64.out).mono ?_
      rintro e w2 ⟨rfl, rfl⟩
      simp only
      go_wp2_with fail
      refine ⟨Le.refl _, ?_⟩
      refine pig_any (v := _) rfl (fun W' => by go_simp <;> exact rfl) ?_
      simp only [Act.put, List.setIfInBounds_toArray, List.set_cons_zero, List.set_cons_succ]
      refine pig_late ?_
      go_wp2_with (refine wpList_store_row rfl 32 _ _ rfl w.heap.size (vcell ⟨q, zag n1, S⟩) rfl rfl 32 _ BV.out (by kernel_rfl) rfl (val_one ⟨q, zag n1, S⟩) ?_)
      refine pig_any (v := _) rfl (fun W' => by go_simp <;> exact rfl) ?_
      simp only [Act.put, List.setIfInBounds_toArray, List.set_cons_zero, List.set_cons_succ]
      refine pig_done ?_
      go_wp2_with fail
      refine bodyPost_ret (box_results1 rfl _ (setRow_heap _ _ _ _ _ _ BV.out) rfl Tryd.underlying32 rfl rfl) rfl ?_
      exact ⟨by rw [htv]; rfl, below_setRow (HB.out.trans HLV.out) (Nat.le_refl _) _⟩
    · rw [if_neg hn1'] at htv
      rw [decide_eq_false hn1', Bool.not_false] at hg
      go_wp2_with (refine wpList_store_row rfl 32 _ _ rfl w.heap.size (vcell zeroV) rfl rfl 32 _ BX1.out (by kernel_rfl) rfl (val_one zeroV) ?_)
      refine bodyPost_ret (box_results1 rfl _ (setRow_heap _ _ _ _ _ _ BX1.out) rfl Tryd.underlying32 rfl rfl) rfl ?_
      exact ⟨by rw [htv]; rfl, below_setRow HB.out (Nat.le_refl _) _⟩
#print axioms takevalue_any
end Go.Proofs.YtjliocbdidiemaaDoor
