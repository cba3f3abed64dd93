/-
  Keys, walked: which stands ahead, by the program, to the world.
-/
import Derived.Test.YtjedpjfmlaganaaDoorVwMath
import Derived.Test.YtjedpjfmlaganaaDoorVwH
import Derived.Sort.Grow
import Derived.Deep.DeepCutAuto
namespace Go.Proofs.YtjedpjfmlaganaaDoor.vw
open Go.RowKit Go.Sort
set_option linter.unusedVariables false

/-- Only new blocks, and draws. -/
def Gr (w w' : World) : Prop := ∃ (q : Nat) (os : Array Obj), w' = grow (w.drewN q) os
theorem Gr.refl (w : World) : Gr w w := ⟨0, #[], by rw [grow_empty]; rfl⟩
theorem Gr.trans {a b c : World} (h : Gr a b) (k : Gr b c) : Gr a c := by
  obtain ⟨q, os, rfl⟩ := h
  obtain ⟨r, os', rfl⟩ := k
  refine ⟨q + r, os ++ os', ?_⟩
  show grow (grow ((a.drewN q).drewN r) os) os' = _
  rw [grow_grow, World.drewN_drewN]
theorem Gr.alloc {a b : World} (h : Gr a b) (o : Obj) : Gr a (b.alloc o) := h.trans ⟨0, #[o], by rw [alloc_eq_grow]; rfl⟩
theorem Gr.drew {a b : World} (h : Gr a b) : Gr a b.drew := h.trans ⟨1, #[], by rw [grow_empty]; rfl⟩
theorem Gr.le {a b : World} (h : Gr a b) : Le a b := by
  obtain ⟨q, os, rfl⟩ := h
  refine ⟨rfl, rfl, rfl, ?_, fun k hk => heap_grow_old _ _ (by exact hk)⟩
  rw [size_grow]
  exact Nat.le_add_right _ _

theorem knan_any (w : World) (a : Int) : Calls Tryd.prog 66 #[.int .i64 a] w fun e w' => e = .returned (.bool false) ∧ w = w' := by
  go_enter Tryd.func66, Tryd.ntmps66
  go_wp2_with fail
  go_ret
  exact ⟨by simp, rfl⟩
theorem kcmp_any (w : World) (a b : Int) : Calls Tryd.prog 60 #[.int .i64 a, .int .i64 b] w fun e w' => e = .returned (.int .i64 (va.cmpI a b)) ∧ w = w' := by
  by_cases h1 : a < b
  · have HX := hide (show va.cmpI a b = -1 by simp [va.cmpI, h1])
    go_enter Tryd.func60, Tryd.ntmps60
    go_wp2_with (go_at_call 66; refine (knan_any _ _).mono ?_; rintro e w' ⟨rfl, rfl⟩)
    go_ret
    exact ⟨ret_int HX.out.symm, rfl⟩
  · by_cases h2 : b < a
    · have HX := hide (show va.cmpI a b = 1 by simp [va.cmpI, h1, h2])
      go_enter Tryd.func60, Tryd.ntmps60
      go_wp2_with (go_at_call 66; refine (knan_any _ _).mono ?_; rintro e w' ⟨rfl, rfl⟩)
      go_ret
      exact ⟨ret_int HX.out.symm, rfl⟩
    · have HX := hide (show va.cmpI a b = 0 by simp [va.cmpI, h1, h2])
      go_enter Tryd.func60, Tryd.ntmps60
      go_wp2_with (go_at_call 66; refine (knan_any _ _).mono ?_; rintro e w' ⟨rfl, rfl⟩)
      go_ret
      exact ⟨ret_int HX.out.symm, rfl⟩
/-- The first that is not 0. -/
def orL : List Int → Int
  | [] => 0
  | a :: l => va.orI a (orL l)
theorem orL_drop {l : List Int} {k : Nat} {y : Int} (h : l[k]? = some y) : orL (l.drop k) = va.orI y (orL (l.drop (k + 1))) := by
  obtain ⟨hk, rfl⟩ := List.getElem?_eq_some_iff.1 h
  rw [List.drop_eq_getElem_cons hk]
  rfl
theorem kor_any (w : World) (B : Nat) (A : Option Addr) (n c : Nat) (l : List Int) (hl : l.length = n) (hn : n ≤ 1000000000) (hr : Row w B A (ints l)) :
    Calls Tryd.prog 59 #[.slice A n c] w fun e w' => e = .returned (.int .i64 (orL l)) ∧ w = w' := by
  have HL := hide hl
  obtain ⟨R, hR⟩ : ∃ R, orL l = R := ⟨_, rfl⟩
  rw [hR]
  have HR := hide (show orL (l.drop 0) = R by rw [List.drop_zero]; exact hR)
  clear hl hR
  go_enter Tryd.func59, Tryd.ntmps59
  go_wp2_with fail
  go_loop [8] (fun i => ∃ k : Nat, k ≤ n ∧ i = .int .i64 k ∧ Hid (orL (l.drop k) = R)) (fun i => n - (intOf i).toNat)
  case atStart => exact ⟨0, Nat.zero_le _, rfl, HR⟩
  case round =>
    obtain ⟨k, hk, rfl, HP⟩ := hrel
    by_cases hkn : k < n
    · obtain ⟨y, hy⟩ : ∃ y, l[k]? = some y := ⟨_, List.getElem?_eq_getElem (by rw [HL.out]; exact hkn)⟩
      obtain ⟨bA, oA, rfl, -, hcA⟩ := hr.at_ (ints_at hy)
      have hd := orL_drop hy
      rw [HP.out] at hd
      have HD := hide hd
      clear hy hd
      by_cases hz : y = 0
      · subst hz
        have HN := hide (show orL (l.drop (k + 1)) = R by rw [HD.out]; simp [va.orI])
        go_wp2_with fail
        exact ⟨⟨k + 1, by omega, by go_num, HN⟩, by simp [intOf]; omega⟩
      · have hzb : (y != 0) = true := by simpa using hz
        have HX := hide (show R = y by rw [HD.out]; simp [va.orI, hz])
        go_wp2_with fail
        go_ret
        exact ⟨ret_int HX.out.symm, rfl⟩
    · obtain rfl : k = n := by omega
      have HX := hide (show R = 0 by rw [← HP.out, List.drop_of_length_le (by rw [HL.out]; exact Nat.le_refl _)]; rfl)
      go_wp2_with fail
      go_ret
      exact ⟨ret_int HX.out.symm, rfl⟩

/-- A key, as cells. -/
def kcell (k : Ke) : Array Value := #[.int .i64 k.id, .int .i64 k.bk, .int .i64 k.rw]
theorem kbox2 (w : World) (x y : Ke) (t : TypeId) : ∃ W, (w.alloc (.cells #[.int .i64 x.id, .int .i64 x.bk, .int .i64 x.rw] t)).alloc (.cells #[.int .i64 y.id, .int .i64 y.bk, .int .i64 y.rw] t) = W ∧ Box W w.heap.size (kcell x) t ∧ Box W (w.heap.size + 1) (kcell y) t ∧ Gr w W := by
  obtain ⟨W, h, b1, b2, -, -⟩ := two_boxes w (kcell x) (kcell y) t
  exact ⟨W, h, b1, b2, by rw [← h]; exact ((Gr.refl w).alloc _).alloc _⟩
set_option maxRecDepth 100000 in
set_option maxHeartbeats 2000000 in
theorem korder_any (w : World) (x y : Ke) : Calls Tryd.prog 64 #[.agg #[.int .i64 x.id, .int .i64 x.bk, .int .i64 x.rw], .agg #[.int .i64 y.id, .int .i64 y.bk, .int .i64 y.rw]] w fun e w' => e = .returned (.int .i64 (cmpK x y)) ∧ Gr w w' := by
  obtain ⟨X, hX, b1, b2, hg⟩ := kbox2 w x y 33
  have HX := hide hX
  obtain ⟨V, hV⟩ : ∃ V, X.drew = V := ⟨_, rfl⟩
  have HG := hide (show Gr w V by rw [← hV]; exact hg.drew)
  have v1 := (show Box V w.heap.size (kcell x) 33 by rw [← hV]; exact b1.drew)
  have v2 := (show Box V (w.heap.size + 1) (kcell y) 33 by rw [← hV]; exact b2.drew)
  have HV := hide hV
  have c0 := v1.later 0 (.int .i64 x.id) rfl
  have c1 := v1.later 1 (.int .i64 x.bk) rfl
  have c2 := v1.later 2 (.int .i64 x.rw) rfl
  have d0 := v2.later 0 (.int .i64 y.id) rfl
  have d1 := v2.later 1 (.int .i64 y.bk) rfl
  have d2 := v2.later 2 (.int .i64 y.rw) rfl
  have h1 := hide (kcmp_any V x.id y.id)
  have h2 := hide (kcmp_any V x.bk y.bk)
  have h3 := hide (kcmp_any V x.rw y.rw)
  have HC := hide (show cmpK x y = orL [va.cmpI x.id y.id, va.cmpI x.bk y.bk, va.cmpI x.rw y.rw] by
    show va.orI _ (va.orI _ _) = va.orI _ (va.orI _ (va.orI _ 0))
    congr 2
    unfold va.orI
    split
    · rename_i h; exact h
    · rfl)
  rw [HC.out]
  generalize va.cmpI x.id y.id = r1 at h1
  generalize va.cmpI x.bk y.bk = r2 at h2
  generalize va.cmpI x.rw y.rw = r3 at h3
  obtain ⟨R, hR⟩ : ∃ R, orL [r1, r2, r3] = R := ⟨_, rfl⟩
  rw [hR]
  have HR := hide hR
  clear hX hV hg b1 b2 v1 v2 HC hR
  go_enter Tryd.func64, Tryd.ntmps64
  go_upto_region 1 with fail
  rw [HX.out]
  refine region_pi [(0, true), (1, true), (2, true), (3, true), (5, true), (6, true), (7, true), (8, true), (10, true), (11, true), (12, true), (13, true), (4, false), (9, false), (14, false), (15, false), (16, false), (17, true)] (by kernel_rfl) (by kernel_rfl) ?_
  simp only [opsPi, List.filterMap_cons, List.filterMap_nil, List.getElem?_toArray, List.getElem?_cons_zero, List.getElem?_cons_succ, Option.map_some]
  rw [HV.out]
  repeat (first | (refine pi_take (v := _) rfl (fun W hW => by go_simp <;> exact rfl) ?_; simp only [Act.put, List.setIfInBounds_toArray, List.set_cons_zero, List.set_cons_succ]) | (refine pi_skip rfl ?_; simp only [Act.put, List.setIfInBounds_toArray, List.set_cons_zero, List.set_cons_succ]))
  clear c0 c1 c2 d0 d1 d2
  refine pi_run ?_
  go_wp2_with fail
  refine h1.out.mono ?_
  rintro e w' ⟨rfl, rfl⟩
  go_wp2_with fail
  refine ⟨Le.refl _, ?_⟩
  refine pi_run ?_
  go_wp2_with fail
  refine h2.out.mono ?_
  rintro e w' ⟨rfl, rfl⟩
  go_wp2_with fail
  refine ⟨Le.refl _, ?_⟩
  refine pi_run ?_
  go_wp2_with fail
  refine h3.out.mono ?_
  rintro e w' ⟨rfl, rfl⟩
  go_wp2_with fail
  refine ⟨Le.refl _, ?_⟩
  refine pi_run ?_
  go_wp2_with fail
  refine ⟨(Le.refl V).alloc (Nat.le_refl _) _, ?_⟩
  refine pi_run ?_
  go_wp2_with fail
  refine (kor_any _ _ _ 3 3 [r1, r2, r3] rfl (by omega) (row_new V #[.int .i64 r1, .int .i64 r2, .int .i64 r3] _ (0, 0))).mono ?_
  rintro e w' ⟨rfl, rfl⟩
  rw [HR.out]
  go_wp2_with fail
  refine ⟨Le.refl _, ?_⟩
  repeat (first | (refine pi_take (v := _) rfl (fun W hW => by go_simp <;> exact rfl) ?_; simp only [Act.put, List.setIfInBounds_toArray, List.set_cons_zero, List.set_cons_succ]) | (refine pi_skip rfl ?_; simp only [Act.put, List.setIfInBounds_toArray, List.set_cons_zero, List.set_cons_succ]))
  refine pi_done ?_
  go_wp2_with fail
  go_ret
  exact ⟨rfl, HG.out.alloc _⟩
#print axioms korder_any
set_option maxRecDepth 100000 in
theorem kless_any (w : World) (x y : Ke) : Calls Tryd.prog 54 #[.agg #[.int .i64 x.id, .int .i64 x.bk, .int .i64 x.rw], .agg #[.int .i64 y.id, .int .i64 y.bk, .int .i64 y.rw]] w fun e w' => e = .returned (.bool (ltK x y)) ∧ Gr w w' := by
  obtain ⟨X, hX, b1, b2, hg⟩ := kbox2 w x y 33
  have HX := hide hX
  have HG := hide hg
  have c0 := b1.cell 0 (.int .i64 x.id) rfl
  have c1 := b1.cell 1 (.int .i64 x.bk) rfl
  have c2 := b1.cell 2 (.int .i64 x.rw) rfl
  have d0 := b2.cell 0 (.int .i64 y.id) rfl
  have d1 := b2.cell 1 (.int .i64 y.bk) rfl
  have d2 := b2.cell 2 (.int .i64 y.rw) rfl
  have ho := hide (korder_any X x y)
  have HL := hide (cmpK_lt x y)
  generalize cmpK x y = r at ho HL
  generalize ltK x y = b at HL ⊢
  clear hX hg b1 b2
  go_enter Tryd.func54, Tryd.ntmps54
  go_upto_region 1 with fail
  rw [HX.out]
  go_wp2_with fail
  refine ho.out.mono ?_
  rintro e w' ⟨rfl, hg⟩
  have HG2 := hide (HG.out.trans hg)
  have hl := HL.out
  clear hg
  go_wp2_with fail
  go_ret
  exact ⟨rfl, HG2.out⟩
#print axioms kless_any
/-- A row with its key, as cells. -/
def kdcell (k : Ke) (A : Option Addr) (n c : Nat) : Array Value := #[.int .i64 k.id, .int .i64 k.bk, .int .i64 k.rw, .slice A n c]
set_option maxRecDepth 100000 in
theorem vorder_any (w : World) (x y : Ke) (A A' : Option Addr) (n n' c c' : Nat) : Calls Tryd.prog 39 #[.agg #[.int .i64 x.id, .int .i64 x.bk, .int .i64 x.rw, .slice A n c], .agg #[.int .i64 y.id, .int .i64 y.bk, .int .i64 y.rw, .slice A' n' c']] w fun e w' => e = .returned (.int .i64 (ordK x y)) ∧ Gr w w' := by
  obtain ⟨X, hX, b1, b2, -, -⟩ := two_boxes w (kdcell x A n c) (kdcell y A' n' c') 37
  have HG := hide (show Gr w X by rw [← hX]; exact ((Gr.refl w).alloc _).alloc _)
  unfold kdcell at hX
  have HX := hide hX
  have c0 := b1.cell 0 (.int .i64 x.id) rfl
  have c1 := b1.cell 1 (.int .i64 x.bk) rfl
  have c2 := b1.cell 2 (.int .i64 x.rw) rfl
  have d0 := b2.cell 0 (.int .i64 y.id) rfl
  have d1 := b2.cell 1 (.int .i64 y.bk) rfl
  have d2 := b2.cell 2 (.int .i64 y.rw) rfl
  have h1 := hide (kless_any X x y)
  have h2 := hide (fun W : World => kless_any W y x)
  have e0 := b1.later 0 (.int .i64 x.id) rfl
  have e1 := b1.later 1 (.int .i64 x.bk) rfl
  have e2 := b1.later 2 (.int .i64 x.rw) rfl
  have f0 := b2.later 0 (.int .i64 y.id) rfl
  have f1 := b2.later 1 (.int .i64 y.bk) rfl
  have f2 := b2.later 2 (.int .i64 y.rw) rfl
  have HE := hide (And.intro e0 (And.intro e1 (And.intro e2 (And.intro f0 (And.intro f1 f2)))))
  obtain ⟨R, hR⟩ : ∃ R, ordK x y = R := ⟨_, rfl⟩
  rw [hR]
  have HR := hide (show R = if ltK x y then -1 else if ltK y x then 1 else 0 by rw [← hR]; rfl)
  generalize ltK x y = p at h1 HR
  generalize ltK y x = q at h2 HR
  clear hX b1 b2 e0 e1 e2 f0 f1 f2 hR
  go_enter Tryd.func39, Tryd.ntmps39
  go_upto_region 1 with fail
  rw [HX.out]
  go_wp2_with fail
  refine h1.out.mono ?_
  rintro e w' ⟨rfl, hg⟩
  have HG2 := hide (HG.out.trans hg)
  have hle := hg.le
  have g0 := HE.out.1 w' hle
  have g1 := HE.out.2.1 w' hle
  have g2 := HE.out.2.2.1 w' hle
  have g3 := HE.out.2.2.2.1 w' hle
  have g4 := HE.out.2.2.2.2.1 w' hle
  have g5 := HE.out.2.2.2.2.2 w' hle
  clear hg hle c0 c1 c2 d0 d1 d2
  cases p
  · go_wp2_with fail
    refine (h2.out w').mono ?_
    rintro e w2 ⟨rfl, hg⟩
    have HG3 := hide (HG2.out.trans hg)
    clear hg
    cases q
    · go_wp2_with fail
      go_ret
      exact ⟨ret_int HR.out.symm, HG3.out⟩
    · go_wp2_with fail
      go_ret
      exact ⟨ret_int HR.out.symm, HG3.out⟩
  · go_wp2_with fail
    go_ret
    exact ⟨ret_int HR.out.symm, HG2.out⟩
#print axioms vorder_any
theorem run_enter {P : Program} {f : FuncId} {fn : Func} {c : Code} (hf : P.funcs[f]? = some fn) (hname : (fn.name == "runtime.NumGoroutine") = false) (hb : fn.body = some c) (args : Array Value) (w : World) :
    (callFunc f args).run P w = .ok (.enter f args) w := by
  have h1 : fn.name ≠ "runtime.NumGoroutine" := by simpa using hname
  simp [callFunc, hf, h1, hb]
theorem enterOrder : ∀ args W, (callFunc 39 args).run Tryd.prog W = .ok (.enter 39 args) W :=
  fun args W => run_enter Tryd.func39 (by decide) rfl args W
end Go.Proofs.YtjedpjfmlaganaaDoor.vw
