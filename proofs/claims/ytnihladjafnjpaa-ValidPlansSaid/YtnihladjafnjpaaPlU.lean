/-
  Directories, sorted: slices.SortFunc's contract, laid at this program; which stands ahead. (The record's lines are written by mk_plu.py.)
-/
import Derived.Shelf.SlSortCmp.WholeK
import Derived.Test.YtnihladjafnjpaaPlF
namespace Go.Proofs.Ytnihladjafnjpaa
open Go.Proofs
open Go.Shelf Go.RowKit Go.Lib Go.Sort
set_option linter.unusedVariables false

def sort_ren : Go.Shelf.Ren := ⟨fun | 6 => 41 | 14 => 45 | 15 => 46 | 20 => 47 | 21 => 48 | 22 => 49 | 23 => 50 | 24 => 51 | 25 => 52 | 26 => 53 | 27 => 54 | 28 => 55 | 29 => 56 | 46 => 57 | 47 => 58 | 48 => 59 | 49 => 60 | 50 => 61 | 57 => 62 | n => n, fun | 0 => 0 | 3 => 3 | 4 => 4 | 5 => 5 | 9 => 9 | 22 => 35 | 24 => 41 | 25 => 54 | 39 => 59 | 45 => 61 | 46 => 62 | 50 => 66 | 53 => 69 | 55 => 71 | 66 => 72 | 70 => 76 | 76 => 78 | 77 => 79 | n => n, fun n => n⟩
theorem sort_lays : SlLaysF0.n6 Try.prog sort_ren := {
  mixed := by kernel_rfl
  f6 := ⟨Try.f41.name, by decide, Try.func41.trans (congrArg some (by kernel_rfl))⟩
  f14 := ⟨Try.f45.name, by decide, Try.func45.trans (congrArg some (by kernel_rfl))⟩
  f15 := Try.func46.trans (congrArg some (by kernel_rfl))
  f20 := ⟨Try.f47.name, by decide, Try.func47.trans (congrArg some (by kernel_rfl))⟩
  f21 := ⟨Try.f48.name, by decide, Try.func48.trans (congrArg some (by kernel_rfl))⟩
  f22 := ⟨Try.f49.name, by decide, Try.func49.trans (congrArg some (by kernel_rfl))⟩
  f23 := ⟨Try.f50.name, by decide, Try.func50.trans (congrArg some (by kernel_rfl))⟩
  f24 := ⟨Try.f51.name, by decide, Try.func51.trans (congrArg some (by kernel_rfl))⟩
  f25 := ⟨Try.f52.name, by decide, Try.func52.trans (congrArg some (by kernel_rfl))⟩
  f26 := ⟨Try.f53.name, by decide, Try.func53.trans (congrArg some (by kernel_rfl))⟩
  f27 := ⟨Try.f54.name, by decide, Try.func54.trans (congrArg some (by kernel_rfl))⟩
  f28 := Try.func55.trans (congrArg some (by kernel_rfl))
  f29 := Try.func56.trans (congrArg some (by kernel_rfl))
  f46 := ⟨Try.f57.name, by decide, Try.func57.trans (congrArg some (by kernel_rfl))⟩
  f47 := Try.func58.trans (congrArg some (by kernel_rfl))
  f48 := Try.func59.trans (congrArg some (by kernel_rfl))
  f49 := ⟨Try.f60.name, by decide, Try.func60.trans (congrArg some (by kernel_rfl))⟩
  f50 := ⟨Try.f61.name, by decide, Try.func61.trans (congrArg some (by kernel_rfl))⟩
  f57 := ⟨Try.f62.name, by decide, Try.func62.trans (congrArg some (by kernel_rfl))⟩
  t0 := Try.underlying0
  a0 := Try.isAgg0
  z0 := Try.sizeOf0
  v0 := Try.zeroValue0
  t3 := Try.underlying3
  a3 := Try.isAgg3
  z3 := Try.sizeOf3
  v3 := Try.zeroValue3
  t4 := Try.underlying4
  a4 := Try.isAgg4
  z4 := Try.sizeOf4
  v4 := Try.zeroValue4
  t5 := Try.underlying5
  a5 := Try.isAgg5
  z5 := Try.sizeOf5
  v5 := Try.zeroValue5
  t9 := Try.underlying9
  a9 := Try.isAgg9
  z9 := Try.sizeOf9
  v9 := Try.zeroValue9
  t22 := Try.underlying35
  a22 := Try.isAgg35
  z22 := Try.sizeOf35
  v22 := Try.zeroValue35
  t25 := Try.underlying54
  a25 := Try.isAgg54
  z25 := Try.sizeOf54
  v25 := Try.zeroValue54
  t39 := Try.underlying59
  a39 := Try.isAgg59
  z39 := Try.sizeOf59
  v39 := Try.zeroValue59
  t45 := Try.underlying61
  a45 := Try.isAgg61
  z45 := Try.sizeOf61
  v45 := Try.zeroValue61
  t46 := Try.underlying62
  a46 := Try.isAgg62
  z46 := Try.sizeOf62
  v46 := Try.zeroValue62
  t50 := Try.underlying66
  a50 := Try.isAgg66
  z50 := Try.sizeOf66
  v50 := Try.zeroValue66
  t53 := Try.underlying69
  a53 := Try.isAgg69
  z53 := Try.sizeOf69
  v53 := Try.zeroValue69
  t55 := Try.underlying71
  a55 := Try.isAgg71
  z55 := Try.sizeOf71
  v55 := Try.zeroValue71
  t66 := Try.underlying72
  a66 := Try.isAgg72
  z66 := Try.sizeOf72
  v66 := Try.zeroValue72
  t70 := Try.underlying76
  a70 := Try.isAgg76
  z70 := Try.sizeOf76
  v70 := Try.zeroValue76
  t76 := Try.underlying78
  a76 := Try.isAgg78
  z76 := Try.sizeOf78
  v76 := Try.zeroValue78
  t77 := Try.underlying79
  a77 := Try.isAgg79
  z77 := Try.sizeOf79
  v77 := Try.zeroValue79
  }


/-- A directory whose numbers are small. -/
abbrev DrS : Type := { d : dr.Dr // 0 ≤ d.f ∧ d.f ≤ 1073741824 ∧ 0 ≤ d.t ∧ d.t ≤ 1073741824 }
instance : Inhabited DrS := ⟨⟨⟨0, 0, 0⟩, by decide⟩⟩
def encD (x : DrS) : List Value := [.int .i64 x.1.k, .int .i64 x.1.f, .int .i64 x.1.t]
def cmpD (x y : DrS) : Int := if x.1.f ≠ y.1.f then x.1.f - y.1.f else y.1.t - x.1.t
theorem ltD (x y : DrS) : ltOf cmpD x y = decide (x.1.f < y.1.f ∨ x.1.f = y.1.f ∧ y.1.t < x.1.t) := by
  unfold ltOf cmpD
  by_cases h : x.1.f = y.1.f
  · rw [if_neg (by simp [h])]
    rw [decide_eq_decide]
    omega
  · rw [if_pos h, decide_eq_decide]
    omega
theorem swoD : SWO (ltOf cmpD) where
  irrefl x := by rw [ltD]; simp
  trans x y z h1 h2 := by rw [ltD, decide_eq_true_eq] at *; omega
  ntrans x y z h1 h2 := by rw [ltD, decide_eq_false_iff_not] at *; omega

set_option maxRecDepth 100000 in
theorem ahead_lays (w : World) (x y : DrS) :
    Calls Try.prog 42 #[.agg #[.int .i64 x.1.k, .int .i64 x.1.f, .int .i64 x.1.t], .agg #[.int .i64 y.1.k, .int .i64 y.1.f, .int .i64 y.1.t]] w
      fun e w' => e = .returned (.int .i64 (cmpD x y)) ∧ ∃ q os', w' = grow (w.drewN q) os' := by
  obtain ⟨⟨ak, af, at_⟩, ha⟩ := x
  obtain ⟨⟨bk, bf, bt⟩, hb⟩ := y
  simp only at ha hb ⊢
  obtain ⟨W, hW⟩ : ∃ W, (w.alloc (.cells #[.int .i64 ak, .int .i64 af, .int .i64 at_] 41)).alloc (.cells #[.int .i64 bk, .int .i64 bf, .int .i64 bt] 41) = W := ⟨_, rfl⟩
  obtain ⟨b1, hw1⟩ : ∃ b, (af != bf) = b := ⟨_, rfl⟩
  have HB := hide (show ∃ q os', W = grow (w.drewN q) os' by rw [← hW]; exact ⟨0, _, by rw [alloc_eq_grow, alloc_eq_grow, grow_grow]; rfl⟩)
  obtain ⟨r, hr⟩ : ∃ r, (if af ≠ bf then af - bf else bt - at_) = r := ⟨_, rfl⟩
  have hr2 : cmpD ⟨⟨ak, af, at_⟩, ha⟩ ⟨⟨bk, bf, bt⟩, hb⟩ = r := hr
  rw [hr2]
  have HA1 := hide (show b1 = true → wrap64 (af - bf) = r from fun h => by
    rw [h] at hw1
    have hne : af ≠ bf := by simpa using hw1
    rw [if_pos hne] at hr
    unfold wrap64
    omega)
  have HA2 := hide (show b1 = false → wrap64 (bt - at_) = r from fun h => by
    rw [h] at hw1
    have hne : ¬ af ≠ bf := by simpa using hw1
    rw [if_neg hne] at hr
    unfold wrap64
    omega)
  have HW := hide hW
  clear hr2 hW hr
  clear ha hb
  go_enter Try.func42, Try.ntmps42
  cases b1
  · go_wp2_with fail
    rw [HW.out]
    go_ret
    exact ⟨ret_int (by have h := HA2.out; simpa using h), HB.out⟩
  · go_wp2_with fail
    rw [HW.out]
    go_ret
    exact ⟨ret_int (by have h := HA1.out; simpa using h), HB.out⟩
#print axioms ahead_lays
theorem enterAhead : ∀ args W, (callFunc 42 args).run Try.prog W = .ok (.enter 42 args) W :=
  fun args W => run_enter Try.func42 (by decide) rfl args W
theorem cmp_lays (blk off size : Nat) (w : World) : CmpLays Try.prog 42 #[] encD 3 cmpD blk off size w :=
  fun _ _ _ _ x y => ahead_lays _ x y

/-- The cells, flat. -/
theorem flat_dcs (d : Array DrS) : (flatK encD 3 d).toList = dcs (d.toList.map (·.1)) := by
  refine List.ext_getElem? fun t => ?_
  by_cases ht : t < d.size * 3
  · have h1 : (flatK encD 3 d).toList[t]? = some (flatK encD 3 d)[t]! := by
      rw [Array.getElem?_toList, Array.getElem?_eq_getElem (by rw [size_flatK]; exact ht), getElem!_pos]
    rw [h1, get_flatK _ _ _ _ ht]
    have hk : t / 3 < d.size := by omega
    have h2 : (d.toList.map (·.1))[t / 3]? = some d[t / 3]!.1 := by
      rw [List.getElem?_map, Array.getElem?_toList, Array.getElem?_eq_getElem hk, getElem!_pos d _ hk]
      rfl
    obtain ⟨a0, a1, a2⟩ := dcs_at h2
    have hm : t % 3 = 0 ∨ t % 3 = 1 ∨ t % 3 = 2 := by omega
    rcases hm with hm | hm | hm
    · rw [show t / 3 * 3 = t by omega] at a0
      rw [hm, a0]; rfl
    · rw [show t / 3 * 3 + 1 = t by omega] at a1
      rw [hm, a1]; rfl
    · rw [show t / 3 * 3 + 2 = t by omega] at a2
      rw [hm, a2]; rfl
  · rw [List.getElem?_eq_none (by rw [Array.length_toList, size_flatK]; omega), List.getElem?_eq_none (by rw [dcs_len, List.length_map, Array.length_toList]; omega)]
theorem own_sorted {w : World} {B g cap n : Nat} {e : TypeId} {cur F : Array Value} {os : Array Obj} {q : Nat} (hB : B ≤ g) (hg : w.heap[g]? = some (.cells cur e (0, 0))) (h1 : n ≤ cap) (h2 : cap ≤ maxLen) (h3 : cur.size = cap * 3) (hF : F.size = n * 3) :
    (grow (putRow id (Sort.ahead w q) g 0 F) os).ownsRow B e 3 (.slice (some ⟨g, 0, none⟩) n cap) n F.toList ∧ Go.RowKit.Below B w (grow (putRow id (Sort.ahead w q) g 0 F) os) := by
  have hlt : g < w.heap.size := (Array.getElem?_eq_some_iff.1 hg).1
  have hle : n * 3 ≤ cap * 3 := by omega
  refine ⟨⟨by rw [Array.length_toList, hF], .inr ⟨g, cap, putCells id 0 F cur, rfl, hB, ?_, h1, h2, ?_, ?_⟩⟩, ⟨rfl, rfl, rfl, ?_, fun k hk => ?_⟩⟩
  · rw [heap_grow_old _ _ (by rw [size_putRow]; exact hlt)]
    show (w.heap.modify g _)[g]? = _
    rw [Array.getElem?_modify, if_pos rfl, hg]
    rfl
  · rw [putCells, Array.size_mapIdx, h3]
  · refine List.ext_getElem? fun t => ?_
    by_cases ht : t < n * 3
    · rw [List.getElem?_take_of_lt ht, Array.getElem?_toList, putCells, Array.getElem?_mapIdx, Array.getElem?_eq_getElem (show t < cur.size by omega), Array.getElem?_toList, Array.getElem?_eq_getElem (show t < F.size by omega)]
      simp only [Option.map_some]
      rw [if_pos ⟨Nat.zero_le _, by omega⟩, Nat.sub_zero, getElem!_pos F t (by omega)]
      rfl
    · rw [List.getElem?_eq_none (by rw [List.length_take]; omega), List.getElem?_eq_none (by rw [Array.length_toList]; omega)]
  · show w.heap.size ≤ (grow _ os).heap.size
    rw [size_grow, size_putRow]
    exact Nat.le_add_right _ _
  · rw [heap_grow_old _ _ (by rw [size_putRow]; exact Nat.lt_of_lt_of_le hk (Nat.le_of_lt (Nat.lt_of_le_of_lt hB hlt)))]
    show (w.heap.modify g _)[k]? = _
    rw [Array.getElem?_modify, if_neg (by omega)]
theorem small_list : ∀ (o : List dr.Dr), (∀ d ∈ o, 0 ≤ d.f ∧ d.f ≤ 1073741824 ∧ 0 ≤ d.t ∧ d.t ≤ 1073741824) → ∃ l : List DrS, l.map (·.1) = o
  | [], _ => ⟨[], rfl⟩
  | d :: o, h => by
    obtain ⟨l, hl⟩ := small_list o fun e he => h e (by simp [he])
    exact ⟨⟨d, h d (by simp)⟩ :: l, by simp [hl]⟩
theorem sorted_le2 {d' : Array DrS} (h : SortedIn (ltOf cmpD) 0 d'.size d') : (d'.toList.map (·.1)).Pairwise dr.Le2 := by
  rw [List.pairwise_iff_getElem]
  intro i j hi hj hij
  rw [List.length_map, Array.length_toList] at hi hj
  have := h i j (Nat.zero_le _) hij hj
  rw [ltD, decide_eq_false_iff_not, getElem!_pos d' i hi, getElem!_pos d' j hj] at this
  rw [List.getElem_map, List.getElem_map, Array.getElem_toList, Array.getElem_toList]
  unfold dr.Le2
  omega
theorem sort_some (w : World) (B g cap : Nat) (o : List dr.Dr) (n : Nat) (cur : Array Value) (hn : o.length = n) (hn9 : n ≤ 1000000000) (hB : B ≤ g) (hg : w.heap[g]? = some (.cells cur 41 (0, 0))) (h1 : n ≤ cap) (h2 : cap ≤ maxLen) (h3 : cur.size = cap * 3) (h4 : cur.toList.take (n * 3) = dcs o)
    (hs : ∀ d ∈ o, 0 ≤ d.f ∧ d.f ≤ 1073741824 ∧ 0 ≤ d.t ∧ d.t ≤ 1073741824) :
    Calls Try.prog 41 #[.slice (some ⟨g, 0, none⟩) n cap, .func (.func 42) #[] #[]] w fun e w' =>
      e = .returned (.tuple #[]) ∧ ∃ o', o'.Perm o ∧ o'.Pairwise dr.Le2 ∧ w'.ownsRow B 41 3 (.slice (some ⟨g, 0, none⟩) n cap) n (dcs o') ∧ Go.RowKit.Below B w w' := by
  obtain ⟨l, hl⟩ := small_list o hs
  have hsz : l.toArray.size = n := by rw [List.size_toArray, ← hn, ← hl, List.length_map]
  have hlt : g < w.heap.size := (Array.getElem?_eq_some_iff.1 hg).1
  have hF : (flatK encD 3 l.toArray).toList = cur.toList.take (n * 3) := by rw [flat_dcs, h4, ← hl]
  have hH : HoldsK encD 3 w g 0 l.toArray := fun j hj => by
    rw [size_flatK, hsz] at hj
    have e1 : cur[j]? = some (flatK encD 3 l.toArray)[j]! := by
      have h : (flatK encD 3 l.toArray).toList[j]? = (cur.toList.take (n * 3))[j]? := by rw [hF]
      rw [List.getElem?_take_of_lt hj, Array.getElem?_toList, Array.getElem?_toList] at h
      rw [← h, Array.getElem?_eq_getElem (by rw [size_flatK, hsz]; exact hj), getElem!_pos]
    rw [Nat.zero_add]
    exact ⟨Box.cell (w := w) (b := g) (cs := cur) hg j _ e1, Box.frozen (w := w) (b := g) (cs := cur) hg j⟩
  have h := AnyQ.slices_SortFunc sort_lays 3 Try.isAgg41 Try.sizeOf41 encD (fun _ => rfl) (fun x v hv => by simp [encD] at hv; rcases hv with rfl | rfl | rfl <;> rfl) cmpD swoD 42 #[] g 0 cap l.toArray w enterAhead (cmp_lays g 0 _ w) hH hlt (by rw [hsz]; omega)
  rw [hsz] at h
  refine Calls.mono (P := Try.prog) h ?_
  rintro e w' ⟨rfl, d', q, os, hp, hsd, rfl⟩
  have hz : d'.size = n := by rw [hp.1, hsz]
  rw [← hz] at hsd
  have hperm : (d'.toList.map (·.1)).Perm o := by
    have h2 := hp.2.2
    have e1 : d'.extract 0 n = d' := by rw [← hz]; exact Array.extract_size
    have e2 : l.toArray.extract 0 n = l.toArray := by rw [← hsz]; exact Array.extract_size
    rw [e1, e2] at h2
    rw [← hl]
    exact h2.map _
  obtain ⟨r1, r2⟩ := own_sorted (os := os) (q := q) (F := flatK encD 3 d') hB hg h1 h2 h3 (by rw [size_flatK, hz])
  rw [flat_dcs] at r1
  exact ⟨rfl, _, hperm, sorted_le2 hsd, r1, r2⟩
#print axioms sort_some
end Go.Proofs.Ytnihladjafnjpaa
