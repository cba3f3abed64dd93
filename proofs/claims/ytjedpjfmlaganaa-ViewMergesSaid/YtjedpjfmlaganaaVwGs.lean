/-
  What is gone, sorted: slices.SortFunc's contract, laid at this program; which stands ahead. (Written by mk_vgs.py.)
-/
import Derived.Shelf.SlSortCmp.WholeK
import Derived.Test.YtjedpjfmlaganaaVwO
namespace Go.Proofs.Ytjedpjfmlaganaa.vw
open Go.Proofs
open Go.Shelf Go.RowKit Go.Lib Go.Sort
set_option linter.unusedVariables false

def gsort_ren : Go.Shelf.Ren := ⟨fun | 6 => 30 | 14 => 41 | 15 => 42 | 20 => 48 | 21 => 49 | 22 => 50 | 23 => 51 | 24 => 52 | 25 => 53 | 26 => 54 | 27 => 55 | 28 => 56 | 29 => 57 | 46 => 60 | 47 => 61 | 48 => 62 | 49 => 63 | 50 => 64 | 57 => 66 | n => n, fun | 0 => 0 | 3 => 3 | 4 => 4 | 5 => 5 | 9 => 9 | 22 => 27 | 24 => 52 | 25 => 66 | 39 => 75 | 45 => 82 | 46 => 83 | 50 => 87 | 53 => 90 | 55 => 92 | 66 => 94 | 70 => 98 | 76 => 100 | 77 => 101 | n => n, fun n => n⟩
theorem gsort_lays : SlLaysF0.n6 Try.prog gsort_ren := {
  mixed := by kernel_rfl
  f6 := ⟨Try.f30.name, by decide, Try.func30.trans (congrArg some (by kernel_rfl))⟩
  f14 := ⟨Try.f41.name, by decide, Try.func41.trans (congrArg some (by kernel_rfl))⟩
  f15 := Try.func42.trans (congrArg some (by kernel_rfl))
  f20 := ⟨Try.f48.name, by decide, Try.func48.trans (congrArg some (by kernel_rfl))⟩
  f21 := ⟨Try.f49.name, by decide, Try.func49.trans (congrArg some (by kernel_rfl))⟩
  f22 := ⟨Try.f50.name, by decide, Try.func50.trans (congrArg some (by kernel_rfl))⟩
  f23 := ⟨Try.f51.name, by decide, Try.func51.trans (congrArg some (by kernel_rfl))⟩
  f24 := ⟨Try.f52.name, by decide, Try.func52.trans (congrArg some (by kernel_rfl))⟩
  f25 := ⟨Try.f53.name, by decide, Try.func53.trans (congrArg some (by kernel_rfl))⟩
  f26 := ⟨Try.f54.name, by decide, Try.func54.trans (congrArg some (by kernel_rfl))⟩
  f27 := ⟨Try.f55.name, by decide, Try.func55.trans (congrArg some (by kernel_rfl))⟩
  f28 := Try.func56.trans (congrArg some (by kernel_rfl))
  f29 := Try.func57.trans (congrArg some (by kernel_rfl))
  f46 := ⟨Try.f60.name, by decide, Try.func60.trans (congrArg some (by kernel_rfl))⟩
  f47 := Try.func61.trans (congrArg some (by kernel_rfl))
  f48 := Try.func62.trans (congrArg some (by kernel_rfl))
  f49 := ⟨Try.f63.name, by decide, Try.func63.trans (congrArg some (by kernel_rfl))⟩
  f50 := ⟨Try.f64.name, by decide, Try.func64.trans (congrArg some (by kernel_rfl))⟩
  f57 := ⟨Try.f66.name, by decide, Try.func66.trans (congrArg some (by kernel_rfl))⟩
  t0 := Try.underlying0
  a0 := Try.isAgg0
  z0 := Try.sizeOf0
  v0 := Try.zeroValue0
  t3 := Try.underlying3
  a3 := Try.isAgg3
  z3 := Try.sizeOf3
  v3 := Try.zeroValue3
  t4 := Try.underlying4
  a4 := Try.isAgg4
  z4 := Try.sizeOf4
  v4 := Try.zeroValue4
  t5 := Try.underlying5
  a5 := Try.isAgg5
  z5 := Try.sizeOf5
  v5 := Try.zeroValue5
  t9 := Try.underlying9
  a9 := Try.isAgg9
  z9 := Try.sizeOf9
  v9 := Try.zeroValue9
  t22 := Try.underlying27
  a22 := Try.isAgg27
  z22 := Try.sizeOf27
  v22 := Try.zeroValue27
  t25 := Try.underlying66
  a25 := Try.isAgg66
  z25 := Try.sizeOf66
  v25 := Try.zeroValue66
  t39 := Try.underlying75
  a39 := Try.isAgg75
  z39 := Try.sizeOf75
  v39 := Try.zeroValue75
  t45 := Try.underlying82
  a45 := Try.isAgg82
  z45 := Try.sizeOf82
  v45 := Try.zeroValue82
  t46 := Try.underlying83
  a46 := Try.isAgg83
  z46 := Try.sizeOf83
  v46 := Try.zeroValue83
  t50 := Try.underlying87
  a50 := Try.isAgg87
  z50 := Try.sizeOf87
  v50 := Try.zeroValue87
  t53 := Try.underlying90
  a53 := Try.isAgg90
  z53 := Try.sizeOf90
  v53 := Try.zeroValue90
  t55 := Try.underlying92
  a55 := Try.isAgg92
  z55 := Try.sizeOf92
  v55 := Try.zeroValue92
  t66 := Try.underlying94
  a66 := Try.isAgg94
  z66 := Try.sizeOf94
  v66 := Try.zeroValue94
  t70 := Try.underlying98
  a70 := Try.isAgg98
  z70 := Try.sizeOf98
  v70 := Try.zeroValue98
  t76 := Try.underlying100
  a76 := Try.isAgg100
  z76 := Try.sizeOf100
  v76 := Try.zeroValue100
  t77 := Try.underlying101
  a77 := Try.isAgg101
  z77 := Try.sizeOf101
  v77 := Try.zeroValue101
  }


/-- Which of two that are gone stands ahead. -/
def cmpG (x y : Gn) : Int := va.orI (ordK x.k y.k) (va.cmpI x.who y.who)
def ltG (x y : Gn) : Bool := ltK x.k y.k || (eqK x.k y.k && decide (x.who < y.who))
theorem ordK_eq (a b : Ke) : ordK a b = 0 ↔ a = b := by
  unfold ordK
  rcases ltK_tri a b with h | h | h
  · rw [h]; simp; exact ltK_ne h
  · subst h; rw [ltK_irrefl]; simp
  · rw [ltK_asymm h, h]; simp; exact fun e => ltK_ne h e.symm
theorem ltG_of (x y : Gn) : ltOf cmpG x y = ltG x y := by
  unfold ltOf cmpG ltG
  by_cases h : ordK x.k y.k = 0
  · have he := (ordK_eq _ _).1 h
    rw [h]
    rw [he, ltK_irrefl, eqK_refl]
    unfold va.orI va.cmpI
    rw [if_pos rfl, Bool.false_or, Bool.true_and, decide_eq_decide]
    split
    · rename_i h1; simp [h1]
    · split
      · rename_i h1 h2; simp [h1]
      · rename_i h1 h2; simp [h1]
  · have hn : eqK x.k y.k = false := eqK_false.2 fun e => h ((ordK_eq _ _).2 e)
    unfold va.orI
    rw [if_neg h, hn, Bool.false_and, Bool.or_false, ordK_lt]
theorem ltG_iff {x y : Gn} : ltG x y = true ↔ ltK x.k y.k = true ∨ (x.k = y.k ∧ x.who < y.who) := by
  unfold ltG
  rw [Bool.or_eq_true, Bool.and_eq_true, eqK_iff, decide_eq_true_eq]
theorem ltG_irrefl (x : Gn) : ltG x x = false := by
  unfold ltG; rw [ltK_irrefl]; simp
theorem ltG_trans {x y z : Gn} (h : ltG x y = true) (k : ltG y z = true) : ltG x z = true := by
  rw [ltG_iff] at *
  rcases h with h | ⟨h, h2⟩ <;> rcases k with k | ⟨k, k2⟩
  · exact .inl (ltK_trans h k)
  · rw [← k]; exact .inl h
  · rw [h]; exact .inl k
  · exact .inr ⟨h.trans k, by omega⟩
theorem ltG_tri (x y : Gn) : ltG x y = true ∨ x = y ∨ ltG y x = true := by
  rcases ltK_tri x.k y.k with h | h | h
  · exact .inl (ltG_iff.2 (.inl h))
  · rcases Int.lt_trichotomy x.who y.who with k | k | k
    · exact .inl (ltG_iff.2 (.inr ⟨h, k⟩))
    · refine .inr (.inl ?_)
      obtain ⟨a, b⟩ := x
      obtain ⟨c, d⟩ := y
      simp only at h k
      rw [h, k]
    · exact .inr (.inr (ltG_iff.2 (.inr ⟨h.symm, k⟩)))
  · exact .inr (.inr (ltG_iff.2 (.inl h)))
theorem swoG : SWO (ltOf cmpG) where
  irrefl x := by rw [ltG_of]; exact ltG_irrefl x
  trans x y z h1 h2 := by rw [ltG_of] at *; exact ltG_trans h1 h2
  ntrans x y z h1 h2 := by
    rw [ltG_of] at *
    cases h : ltG x z with
    | false => rfl
    | true =>
      rcases ltG_tri y z with k | k | k
      · rw [k] at h2; cases h2
      · subst k; rw [h] at h1; cases h1
      · rw [ltG_trans h k] at h1; cases h1
instance : Inhabited Gn := ⟨⟨⟨0, 0, 0⟩, 0⟩⟩
def encG (x : Gn) : List Value := [.int .i64 x.k.id, .int .i64 x.k.bk, .int .i64 x.k.rw, .int .i64 x.who]
set_option maxRecDepth 100000 in
set_option maxHeartbeats 2000000 in
theorem cgone_any (w : World) (x y : Gn) : Calls Try.prog 31 #[.agg #[.int .i64 x.k.id, .int .i64 x.k.bk, .int .i64 x.k.rw, .int .i64 x.who], .agg #[.int .i64 y.k.id, .int .i64 y.k.bk, .int .i64 y.k.rw, .int .i64 y.who]] w fun e w' => e = .returned (.int .i64 (cmpG x y)) ∧ Gr w w' := by
  obtain ⟨X, hX, b1, b2, -, -⟩ := two_boxes w #[.int .i64 x.k.id, .int .i64 x.k.bk, .int .i64 x.k.rw, .int .i64 x.who] #[.int .i64 y.k.id, .int .i64 y.k.bk, .int .i64 y.k.rw, .int .i64 y.who] 52
  have hg : Gr w X := by rw [← hX]; exact ((Gr.refl w).alloc _).alloc _
  have HX := hide hX
  obtain ⟨V, hV⟩ : ∃ V, X.drew = V := ⟨_, rfl⟩
  have HG := hide (show Gr w V by rw [← hV]; exact hg.drew)
  have v1 := (show Box V w.heap.size #[.int .i64 x.k.id, .int .i64 x.k.bk, .int .i64 x.k.rw, .int .i64 x.who] 52 by rw [← hV]; exact b1.drew)
  have v2 := (show Box V (w.heap.size + 1) #[.int .i64 y.k.id, .int .i64 y.k.bk, .int .i64 y.k.rw, .int .i64 y.who] 52 by rw [← hV]; exact b2.drew)
  have HV := hide hV
  have c0 := v1.later 0 (.int .i64 x.k.id) rfl
  have c1 := v1.later 1 (.int .i64 x.k.bk) rfl
  have c2 := v1.later 2 (.int .i64 x.k.rw) rfl
  have c3 := v1.later 3 (.int .i64 x.who) rfl
  have d0 := v2.later 0 (.int .i64 y.k.id) rfl
  have d1 := v2.later 1 (.int .i64 y.k.bk) rfl
  have d2 := v2.later 2 (.int .i64 y.k.rw) rfl
  have d3 := v2.later 3 (.int .i64 y.who) rfl
  have h1 := hide (vorder_any V x.k y.k none none 0 0 0 0)
  have h2 := hide (fun W : World => kcmp_any W x.who y.who)
  have HC := hide (show cmpG x y = orL [ordK x.k y.k, va.cmpI x.who y.who] by
    show va.orI _ _ = va.orI _ (va.orI _ 0)
    congr 1
    unfold va.orI
    split
    · rename_i h; exact h
    · rfl)
  rw [HC.out]
  generalize ordK x.k y.k = r1 at h1
  generalize va.cmpI x.who y.who = r2 at h2
  obtain ⟨R, hR⟩ : ∃ R, orL [r1, r2] = R := ⟨_, rfl⟩
  rw [hR]
  have HR := hide hR
  clear hX hV hg b1 b2 v1 v2 HC hR
  go_enter Try.func31, Try.ntmps31
  go_upto_region 1 with fail
  rw [HX.out]
  refine region_pi [(0, true), (1, true), (2, true), (3, true), (4, true), (5, true), (7, true), (8, true), (9, true), (10, true), (6, false), (11, false), (12, false), (13, false), (14, true)] (by kernel_rfl) (by kernel_rfl) ?_
  simp only [opsPi, List.filterMap_cons, List.filterMap_nil, List.getElem?_toArray, List.getElem?_cons_zero, List.getElem?_cons_succ, Option.map_some]
  rw [HV.out]
  repeat (first | (refine pi_take (v := _) rfl (fun W hW => by go_simp <;> exact rfl) ?_; simp only [Act.put, List.setIfInBounds_toArray, List.set_cons_zero, List.set_cons_succ]) | (refine pi_skip rfl ?_; simp only [Act.put, List.setIfInBounds_toArray, List.set_cons_zero, List.set_cons_succ]))
  clear c0 c1 c2 c3 d0 d1 d2 d3
  refine pi_run ?_
  go_wp2_with fail
  refine h1.out.mono ?_
  rintro e w1 ⟨rfl, hg1⟩
  have HG1 := hide hg1
  clear hg1
  go_wp2_with fail
  refine ⟨HG1.out.le, ?_⟩
  refine pi_run ?_
  go_wp2_with fail
  refine (h2.out w1).mono ?_
  rintro e w' ⟨rfl, rfl⟩
  go_wp2_with fail
  refine ⟨Le.refl _, ?_⟩
  refine pi_run ?_
  go_wp2_with fail
  refine ⟨(Le.refl _).alloc (Nat.le_refl _) _, ?_⟩
  refine pi_run ?_
  go_wp2_with fail
  refine (kor_any _ _ _ 2 2 [r1, r2] rfl (by omega) (row_new w1 #[.int .i64 r1, .int .i64 r2] _ (0, 0))).mono ?_
  rintro e w' ⟨rfl, rfl⟩
  rw [HR.out]
  go_wp2_with fail
  refine ⟨Le.refl _, ?_⟩
  repeat (first | (refine pi_take (v := _) rfl (fun W hW => by go_simp <;> exact rfl) ?_; simp only [Act.put, List.setIfInBounds_toArray, List.set_cons_zero, List.set_cons_succ]) | (refine pi_skip rfl ?_; simp only [Act.put, List.setIfInBounds_toArray, List.set_cons_zero, List.set_cons_succ]))
  refine pi_done ?_
  go_wp2_with fail
  go_ret
  exact ⟨rfl, (HG.out.trans HG1.out).alloc _⟩
#print axioms cgone_any
theorem enterGone : ∀ args W, (callFunc 31 args).run Try.prog W = .ok (.enter 31 args) W :=
  fun args W => run_enter Try.func31 (by decide) rfl args W
theorem gcmp_lays (blk off size : Nat) (w : World) : CmpLays Try.prog 31 #[] encG 4 cmpG blk off size w :=
  fun _ _ _ _ x y => cgone_any _ x y

/-- The cells, flat. -/
theorem flat_gcs (d : Array Gn) : (flatK encG 4 d).toList = gcs d.toList := by
  refine List.ext_getElem? fun t => ?_
  by_cases ht : t < d.size * 4
  · have h1 : (flatK encG 4 d).toList[t]? = some (flatK encG 4 d)[t]! := by
      rw [Array.getElem?_toList, Array.getElem?_eq_getElem (by rw [size_flatK]; exact ht), getElem!_pos]
    rw [h1, get_flatK _ _ _ _ ht]
    have hk : t / 4 < d.size := by omega
    have h2 : d.toList[t / 4]? = some d[t / 4]! := by
      rw [Array.getElem?_toList, Array.getElem?_eq_getElem hk, getElem!_pos d _ hk]
    obtain ⟨a0, a1, a2, a3⟩ := gcs_at h2
    have hm : t % 4 = 0 ∨ t % 4 = 1 ∨ t % 4 = 2 ∨ t % 4 = 3 := by omega
    rcases hm with hm | hm | hm | hm
    · rw [show t / 4 * 4 = t by omega] at a0
      rw [hm, a0]; rfl
    · rw [show t / 4 * 4 + 1 = t by omega] at a1
      rw [hm, a1]; rfl
    · rw [show t / 4 * 4 + 2 = t by omega] at a2
      rw [hm, a2]; rfl
    · rw [show t / 4 * 4 + 3 = t by omega] at a3
      rw [hm, a3]; rfl
  · rw [List.getElem?_eq_none (by rw [Array.length_toList, size_flatK]; omega), List.getElem?_eq_none (by rw [gcs_len, Array.length_toList]; omega)]

theorem sorted_ltG {d' : Array Gn} (h : SortedIn (ltOf cmpG) 0 d'.size d') : d'.toList.Pairwise fun a b => ltG b a = false := by
  rw [List.pairwise_iff_getElem]
  intro i j hi hj hij
  rw [Array.length_toList] at hi hj
  have := h i j (Nat.zero_le _) hij hj
  rw [ltG_of, getElem!_pos d' i hi, getElem!_pos d' j hj] at this
  rw [Array.getElem_toList, Array.getElem_toList]
  exact this
theorem gsort_some (w : World) (B g cap : Nat) (o : List Gn) (n : Nat) (hn : o.length = n) (hn9 : n ≤ 1000000000) (hown : w.ownsRow B 52 4 (.slice (some ⟨g, 0, none⟩) n cap) n (gcs o)) :
    Calls Try.prog 30 #[.slice (some ⟨g, 0, none⟩) n cap, .func (.func 31) #[] #[]] w fun e w' =>
      e = .returned (.tuple #[]) ∧ ∃ o', o'.Perm o ∧ (o'.Pairwise fun a b => ltG b a = false) ∧ w'.ownsRow B 52 4 (.slice (some ⟨g, 0, none⟩) n cap) n (gcs o') ∧ w.grownBy w' (some g) := by
  rcases hown.2 with ⟨h0, -⟩ | ⟨g', cap', cur, h0, hB, hg, h1, h2, h3, h4⟩
  · cases h0
  injection h0 with h0 _ h00
  injection h0 with h0
  injection h0 with h0 _
  subst h0
  subst h00
  have hsz : o.toArray.size = n := by rw [List.size_toArray, ← hn]
  have hlt : g < w.heap.size := (Array.getElem?_eq_some_iff.1 hg).1
  have hF : (flatK encG 4 o.toArray).toList = cur.toList.take (n * 4) := by rw [flat_gcs, h4]
  have hH : HoldsK encG 4 w g 0 o.toArray := fun j hj => by
    rw [size_flatK, hsz] at hj
    have e1 : cur[j]? = some (flatK encG 4 o.toArray)[j]! := by
      have h : (flatK encG 4 o.toArray).toList[j]? = (cur.toList.take (n * 4))[j]? := by rw [hF]
      rw [List.getElem?_take_of_lt hj, Array.getElem?_toList, Array.getElem?_toList] at h
      rw [← h, Array.getElem?_eq_getElem (by rw [size_flatK, hsz]; exact hj), getElem!_pos]
    rw [Nat.zero_add]
    exact ⟨Box.cell (w := w) (b := g) (cs := cur) hg j _ e1, Box.frozen (w := w) (b := g) (cs := cur) hg j⟩
  have h := AnyQ.slices_SortFunc gsort_lays 4 Try.isAgg52 Try.sizeOf52 encG (fun _ => rfl) (fun x v hv => by simp [encG] at hv; rcases hv with rfl | rfl | rfl | rfl <;> rfl) cmpG swoG 31 #[] g 0 cap o.toArray w enterGone (gcmp_lays g 0 _ w) hH hlt (by rw [hsz]; omega)
  rw [hsz] at h
  refine Calls.mono (P := Try.prog) h ?_
  rintro e w' ⟨rfl, d', q, os, hp, hsd, rfl⟩
  have hz : d'.size = n := by rw [hp.1, hsz]
  rw [← hz] at hsd
  have hperm : d'.toList.Perm o := by
    have h2 := hp.2.2
    have e1 : d'.extract 0 n = d' := by rw [← hz]; exact Array.extract_size
    have e2 : o.toArray.extract 0 n = o.toArray := by rw [← hsz]; exact Array.extract_size
    rw [e1, e2] at h2
    exact h2
  obtain ⟨r1, r2⟩ := own_sorted (os := os) (q := q) (F := flatK encG 4 d') hB hg h1 h2 h3 (by rw [size_flatK, hz])
  rw [flat_gcs] at r1
  exact ⟨rfl, _, hperm, sorted_ltG hsd, r1, r2⟩
#print axioms gsort_some
end Go.Proofs.Ytjedpjfmlaganaa.vw
